/- The reading of Xb is sound, fourth part: operations that look at the world, or turn it. -/
import Derived.Test.YtkideobegadadaaGreatXe
namespace Go.X
variable {P : Program}

/-- The fence: none; r: the round in which the code stands. -/
abbrev Fr (r : Option Nat) : Fence := { Fence.wide with round := r }
theorem callsIn_fr {r : Option Nat} {n : Nat} {f : FuncId} {args : Array Value} {w : World} {R : Ending → World → Prop} (h : CallsIn Fence.wide n P f args w R) : CallsIn (Fr r) n P f args w R := h
theorem roundIn_fr {r : Option Nat} {n l : Nat} {f : FuncId} {tmps : Array Value} {as body : Code} {w : World} {R : Ending → World → Prop} (h : RoundIn Fence.wide n P l f tmps as body w R) : RoundIn (Fr r) n P l f tmps as body w R := h
theorem depth_fr {r : Option Nat} {p : Prop} : (Fr r).depth.isSome = true → p := fun h => by cases h

/-! ### Memory -/
theorem setCells_run {w : World} {b : Nat} : ∀ (ls : List Lf) (L : List Lf) (o k : Nat) (_ : Blk w b L) (_ : o + k + ls.length ≤ L.length),
    ∃ w', (storeCells ⟨b, o, none⟩ (ls.map Lf.enc) k).run P w = .ok () w' ∧ Ext (at1 b) w w' ∧ Blk w' b (splice L (o + k) ls) ∧ w'.heap.size = w.heap.size := by
  intro ls
  induction ls generalizing w with
  | nil => intro L o k hb hl; exact ⟨w, rfl, Ext.refl _ _, by simpa [splice] using hb, rfl⟩
  | cons l ls ih =>
    intro L o k hb hl
    simp only [List.length_cons] at hl
    have hcell := cell_of_blk hb (o + k)
    have hfr := frozen_of_blk hb (o + k)
    have hlk : o + k < L.length := by omega
    have hsome : w.cell? ⟨b, o + k, none⟩ = some (L[o + k]).enc := by rw [hcell, List.getElem?_eq_getElem hlk]; rfl
    have hone : l.enc.oneCell' = true := by
      cases l with
      | sl s => obtain ⟨x, c, hx, _⟩ := s.enc_len; simp [Lf.enc, hx, Value.oneCell']
      | fn f => cases f <;> simp [Lf.enc, Fv.enc, Value.oneCell']
      | _ => simp [Lf.enc, Value.oneCell']
    have hadd : (⟨b, o, none⟩ : Addr).add k = ⟨b, o + k, none⟩ := by
      unfold Addr.add; split
      · rename_i h0; subst h0; simp
      · rfl
    have hrun : (store (⟨b, o + k, none⟩ : Addr) l.enc).run P w = .ok () (w.setCell ⟨b, o + k, none⟩ l.enc) := by
      rw [run_store P w _ _ _ hone, hsome]
      simp [hfr]
    have hblk : Blk (w.setCell ⟨b, o + k, none⟩ l.enc) b (L.set (o + k) l) := by
      obtain ⟨T, hT⟩ := hb
      refine ⟨T, ?_⟩
      simp [World.setCell, Array.getElem?_modify, hT, List.map_set]
    have hext : Ext (at1 b) w (w.setCell ⟨b, o + k, none⟩ l.enc) := by
      refine ⟨rfl, rfl, rfl, by simp [World.setCell], fun i hi hn => RowKit.Below.heap_setCell _ _ _ _ hn, fun i hi => ?_⟩
      by_cases hib : i = b
      · subst hib
        obtain ⟨T, hT⟩ := hb
        rw [hT] at hi
        cases hi
      · rw [RowKit.Below.heap_setCell _ _ _ _ hib]; exact hi
    have hsz : (w.setCell ⟨b, o + k, none⟩ l.enc).heap.size = w.heap.size := by simp [World.setCell]
    obtain ⟨w', h1, h2, h3, h4⟩ := ih (L.set (o + k) l) o (k + 1) hblk (by simp; omega)
    refine ⟨w', ?_, hext.trans h2, ?_, by rw [h4, hsz]⟩
    · simp only [List.map_cons, storeCells, Sem.run_bind, hadd, hrun, Result.andThen_ok]
      exact h1
    · rw [show o + (k + 1) = o + k + 1 by omega, set_splice _ _ _ _ (by simp; omega)] at h3
      exact h3
theorem ext_alloc (w : World) (o : Obj) : Ext no1 w { w with heap := w.heap.push o } :=
  ⟨rfl, rfl, rfl, by simp, fun k hk _ => RowKit.Below.heap_alloc w o k hk, fun k hk => (RowKit.Below.heap_alloc w o k (Array.getElem?_eq_some_iff.1 hk).1).trans hk⟩
theorem blk_alloc (w : World) (ls : List Lf) (T : TypeId) : Blk { w with heap := w.heap.push (.cells (ls.map Lf.enc).toArray T) } w.heap.size ls := ⟨T, by simp⟩
theorem add_eq (b o k : Nat) : (⟨b, o, none⟩ : Addr).add k = ⟨b, o + k, none⟩ := by
  unfold Addr.add; split
  · rename_i h0; subst h0; simp
  · rfl
theorem reads_cells {w : World} {b : Nat} : ∀ {ls : List Lf} {o : Nat}, Reads w b o ls → ∀ j v, (ls.map Lf.enc)[j]? = some v → w.cell? ((⟨b, o, none⟩ : Addr).add j) = some v
  | l :: ls, o, h, 0, v, hv => by
    simp at hv; subst hv
    rw [add_eq]; exact h.1
  | l :: ls, o, h, j + 1, v, hv => by
    have := reads_cells h.2 j v (by simpa using hv)
    rw [add_eq] at *
    rw [show o + (j + 1) = o + 1 + j by omega]
    exact this
  | [], o, h, j, v, hv => by simp at hv
theorem load_run {w : World} {b o : Nat} {ls : List Lf} (h : Reads w b o ls) : (loadCells ⟨b, o, none⟩ ls.length).run P w = .ok (ls.map Lf.enc).toArray w := by
  have := run_loadCells_list (P := P) w ⟨b, o, none⟩ (ls.map Lf.enc) (fun j v hj => reads_cells h j v hj)
  simpa using this
theorem loadVar_lf {t : TypeId} {d : TypeDesc} (hd : P.underlying t = some d) (hg : isAggT P t = false) {w : World} {b o : Nat} {l : Lf} (h : Reads w b o [l]) :
    (loadVar t ⟨b, o, none⟩).run P w = .ok l.enc w := by
  unfold loadVar
  simp only [Sem.run_bind, isAgg_run P t hd, Result.andThen_ok, hg, Bool.false_eq_true, if_false]
  simp [h.1]
theorem loadVar_agg {t : TypeId} {d : TypeDesc} (hd : P.underlying t = some d) (hg : isAggT P t = true) {w : World} {b o : Nat} {ls : List Lf} (hl : ls.length = P.cellsOf t) (h : Reads w b o ls) :
    (loadVar t ⟨b, o, none⟩).run P w = .ok (.agg (ls.map Lf.enc).toArray) w := by
  unfold loadVar
  simp only [Sem.run_bind, isAgg_run P t hd, Result.andThen_ok, hg, if_true, sizeOf_run hd, ← hl, load_run h, Sem.run_pure]
theorem Ks.len : ∀ (cs : List CK) (x : Ks.T cs), (Ks.mk cs x).length = cs.length
  | [], _ => rfl
  | [_], _ => rfl
  | _ :: d :: r, x => by simp only [Ks.mk, List.length_cons]; rw [Ks.len (d :: r) x.2]; rfl
theorem shT_lf {t : TypeId} {c : CK} (h : shT P t = some (.lf c)) : isAggT P t = false ∧ ∃ d, P.underlying t = some d := by
  unfold shT at h
  split at h
  · split at h
    · split at h <;> cases h
    · cases h
  · rename_i hg
    refine ⟨by simpa using hg, ?_⟩
    split at h
    · rename_i c hc
      unfold kind1 at hc
      split at hc <;> first | exact ⟨_, by assumption⟩ | cases hc
    · cases h
theorem shT_agg {t : TypeId} {cs : List CK} (h : shT P t = some (.agg cs)) : isAggT P t = true ∧ (∃ d, P.underlying t = some d) ∧ cs.length = P.cellsOf t := by
  unfold shT at h
  split at h
  · rename_i hg
    split at h
    · split at h
      · cases h
        refine ⟨hg, ?_, by assumption⟩
        unfold isAggT at hg
        split at hg <;> first | exact ⟨_, by assumption⟩ | cases hg
      · cases h
    · cases h
  · split at h <;> cases h

/-! ### One operation -/
section
variable {e : Env} {a : Act} {c : Ctx} {w : World} {r : Option Nat} {n0 : Nat} {K' : Act → World → Prop} {Q : Exit → Act → World → Prop}
/-- What is to be shown of an operation: that, whatever it yields, one may go on. -/
def Goes (P : Program) (r : Option Nat) (a : Act) (o : Oper) (w : World) (K : TV → WP) : Prop :=
  ∀ (K' : Act → World → Prop) (Q : Exit → Act → World → Prop), (∀ v w', Dfr w w' → K v w' → K' (a.put o.dst v.enc) w') → o.wpIn (Fr r) 0 P a w K' Q
theorem goes_val {o : Oper} {K : TV → WP} {v : TV} {w' : World} (hnd : ∀ x, o.op ≠ .defer x) (h : (execOp a.eval o).run P w = .ok (.value v.enc) w') (hd : Dfr w w') (hk : K v w') : Goes P r a o w K := by
  intro K' Q hK
  refine ⟨fun f _ => trivial, ?_⟩
  rw [Oper.semAt_eq _ _ _ hnd, h]
  exact hK v w' hd hk
theorem goes_skip {o : Oper} {K : TV → WP} {w' : World} (hnd : ∀ x, o.op ≠ .defer x) (h : (execOp a.eval o).run P w = .ok .skip w') (hd : Dfr w w') (hk : K und w') : Goes P r a o w K := by
  intro K' Q hK
  refine ⟨fun f _ => trivial, ?_⟩
  rw [Oper.semAt_eq _ _ _ hnd, h]
  exact hK und w' hd hk
theorem callFunc_run {f : FuncId} (h : ent P f = true) (args : Array Value) (w : World) : (callFunc f args).run P w = .ok (.enter f args) w := by
  unfold ent at h
  unfold callFunc
  simp only [Sem.run_bind, run_program, Result.andThen_ok]
  split at h
  · rename_i fn hf
    simp only [Bool.and_eq_true, bne_iff_ne, ne_eq] at h
    have hb : fn.body.isNone = false := by cases hh : fn.body <;> simp [hh] at h ⊢
    simp [hf, h.1, hb]
  · cases h
theorem goes_call {o : Oper} {K : TV → WP} {f : FuncId} {args : List Value} (hnd : ∀ x, o.op ≠ .defer x) (h : (execOp a.eval o).run P w = (callFunc f args.toArray).run P w)
    (hk : CallX P f args w fun v w' => ∃ u : TV, v = u.enc ∧ Dfr w w' ∧ K u w') : Goes P r a o w K := by
  rcases hk with hk | ⟨v, w', hv, u, rfl, hd, hku⟩
  · rw [callFunc_run hk.1] at h
    intro K' Q hK
    refine ⟨fun f _ => trivial, ?_⟩
    rw [Oper.semAt_eq _ _ _ hnd, h]
    refine ⟨depth_fr, callsIn_fr (hk.2.mono ?_)⟩
    rintro e w' ⟨v, rfl, u, rfl, hd, hku⟩
    exact hK u w' hd hku
  · exact goes_val hnd (h.trans hv) hd hku
end
end Go.X
