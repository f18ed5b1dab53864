/- The reading of Xb is sound, fifth part: each operation. -/
import Derived.Test.YtkideobegadadaaGreatXf
namespace Go.X
variable {P : Program}
section
variable {e : Env} {a : Act} {c : Ctx} {w : World} {r : Option Nat}

theorem wno_elim {w : World} {p : Prop} (h : wno w) : p := h.elim
theorem resS_ok {o : Oper} {K : TV → WP} {f : FuncId} {vs : List V1} {t : TypeId} (hnd : ∀ x, o.op ≠ .defer x) (hrun : (execOp a.eval o).run P w = (callFunc f (vs.map V1.enc).toArray).run P w)
    (h : resS P f vs t K w) : Goes P r a o w K := by
  unfold resS at h
  cases hrs : shsT P t with
  | none => rw [hrs] at h; exact h.elim
  | some rs =>
    rw [hrs] at h
    exact goes_call hnd hrun (CallX.mono h fun v w' ⟨x, hv, hd, hk⟩ => ⟨_, hv, hd, hk⟩)
theorem resVS_ok {o : Oper} {K : TV → WP} {f : Fv} {vs : List V1} {t : TypeId} {x : Operand} {ts : Array TypeId} {as : Array Operand} (ho : o.op = .call ⟨.value x, as, ts⟩) (hx : a.eval x = f.enc)
    (has : as.map a.eval = (vs.map V1.enc).toArray) (h : resVS P f vs t K w) : Goes P r a o w K := by
  have hnd : ∀ x, o.op ≠ .defer x := by rw [ho]; intro x; simp
  unfold resVS at h
  cases hrs : shsT P t with
  | none => rw [hrs] at h; exact h.elim
  | some rs =>
    rw [hrs] at h
    cases f with
    | nil => exact h.elim
    | mk fn first cap =>
      cases fn with
      | func g =>
        refine goes_call (args := first ++ vs.map V1.enc ++ cap) hnd ?_ (CallX.mono (.enters h) fun v w' ⟨x, hv, hd, hk⟩ => ⟨_, hv, hd, hk⟩)
        simp [execOp, ho, resolve, hx, has, Fv.enc, Deferred.ofValue, invoke]
      | yield l =>
        cases first with
        | cons z zs => exact h.elim
        | nil =>
          obtain ⟨fn, tmps, asg, body, hy, hr⟩ := h
          intro K' Q hK
          refine ⟨fun f _ => trivial, ?_⟩
          rw [Oper.semAt_eq _ _ _ hnd]
          have : (execOp a.eval o).run P w = .ok (.round l fn tmps asg body) w := by
            simp [execOp, ho, resolve, hx, has, Fv.enc, Deferred.ofValue, invoke, hy]
          rw [this]
          refine ⟨depth_fr, roundIn_fr (hr.mono ?_)⟩
          rintro e w' ⟨v, rfl, u, rfl, hd, hku⟩
          exact hK _ w' hd hku
      | method n => exact h.elim
      | methodOf t n => exact h.elim
      | via t p f q => exact h.elim
theorem div_run {op : BinOp} {k : IntKind} {x y : Int} {t : TypeId} (hy : y ≠ 0) (w : World) :
    (op = .quo → (binOp op t (.int k x) (.int k y)).run P w = .ok (.int k (k.wrap (x.tdiv y))) w) ∧ (op = .rem → (binOp op t (.int k x) (.int k y)).run P w = .ok (.int k (x.tmod y)) w) := by
  constructor <;> intro h <;> subst h <;> simp [binOp, Op.intDiv, hy]
theorem shift_run {op : BinOp} {k k' : IntKind} {x y : Int} {t : TypeId} (hy : 0 ≤ y) (w : World) :
    (op = .shl → (binOp op t (.int k x) (.int k' y)).run P w = .ok (.int k (k.wrap (x * 2 ^ min y.toNat k.bits))) w) ∧ (op = .shr → (binOp op t (.int k x) (.int k' y)).run P w = .ok (.int k (x.fdiv (2 ^ min y.toNat k.bits))) w) := by
  have : ¬ y < 0 := by omega
  constructor <;> intro h <;> subst h <;> simp [binOp, Op.shift, this]
theorem nonZero_ok {x : Operand} {k : IntKind} {n : Int} (h : nonZero x = true) (hx : a.eval x = .int k n) : n ≠ 0 := by
  unfold nonZero at h
  split at h
  · rename_i k' m
    simp only [Act.eval, Value.int.injEq] at hx
    obtain ⟨_, rfl⟩ := hx
    split at h
    · cases h
    · rename_i hd; exact of_decide_eq_false hd
  · cases h
theorem divS_ok {o : Oper} {K : TV → WP} {op : BinOp} {t u : TypeId} {x y : Operand} {k k' : IntKind} {p q : Int} (ho : o.op = .binOp op t x y u) (hx : a.eval x = .int k p) (hy : a.eval y = .int k' q)
    (hk : op = .shl ∨ op = .shr ∨ k = k') (h : divS op y k p q K w) : Goes P r a o w K := by
  have hnd : ∀ x, o.op ≠ .defer x := by rw [ho]; intro x; simp
  have hrun : ∀ v, (binOp op t (.int k p) (.int k' q)).run P w = .ok v w → (execOp a.eval o).run P w = .ok (.value v) w := by
    intro v hv
    have hg := eqGuard_leaf (P := P) op t x y (.int k p) (.int k' q) w
    simp only [Lf.enc] at hg
    simp only [execOp, ho, hx, hy]
    rw [Sem.run_bind, Sem.run_bind, hg]
    simp [hv]
  cases op with
  | quo =>
    have e : k = k' := by rcases hk with hk | hk | hk; cases hk; cases hk; exact hk
    subst e
    simp only [divS] at h
    cases hz : nonZero y with
    | true => rw [hz] at h; exact goes_val (v := .one (.lf (.int k _))) hnd (hrun _ ((div_run (nonZero_ok hz hy) w).1 rfl)) (Dfr.refl w) h
    | false => rw [hz] at h; exact goes_val (v := .one (.lf (.int k _))) hnd (hrun _ ((div_run h.1 w).1 rfl)) (Dfr.refl w) h.2
  | rem =>
    have e : k = k' := by rcases hk with hk | hk | hk; cases hk; cases hk; exact hk
    subst e
    simp only [divS] at h
    cases hz : nonZero y with
    | true => rw [hz] at h; exact goes_val (v := .one (.lf (.int k _))) hnd (hrun _ ((div_run (nonZero_ok hz hy) w).2 rfl)) (Dfr.refl w) h
    | false => rw [hz] at h; exact goes_val (v := .one (.lf (.int k _))) hnd (hrun _ ((div_run h.1 w).2 rfl)) (Dfr.refl w) h.2
  | shl => exact goes_val (v := .one (.lf (.int k _))) hnd (hrun _ ((shift_run h.1 w).1 rfl)) (Dfr.refl w) h.2
  | shr => exact goes_val (v := .one (.lf (.int k _))) hnd (hrun _ ((shift_run h.1 w).2 rfl)) (Dfr.refl w) h.2
  | _ => exact h.elim
theorem arrT_ok {t el : TypeId} {n : Nat} (h : arrT P t = some (n, el)) : P.underlying t = some (.array n el) := by
  unfold arrT at h
  split at h
  · rename_i hu; cases h; exact hu
  · cases h
theorem elemT_ok {t el : TypeId} (h : elemT P t = some el) : P.underlying t = some (.slice el) := by
  unfold elemT at h
  split at h
  · rename_i e hu; cases h; exact hu
  · cases h
end
end Go.X
