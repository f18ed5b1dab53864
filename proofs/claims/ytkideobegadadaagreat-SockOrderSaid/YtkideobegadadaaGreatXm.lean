/- The reading of Xb is sound, last part: a function. -/
import Derived.Test.YtkideobegadadaaGreatXl
import Derived.Laws.Externs
namespace Go.X
variable {P : Program}

theorem reads_lv {n b : Nat} {w w' : World} (h : Lv n w w') : ∀ {ls : List Lf} {o : Nat}, Reads w b o ls → Reads w' b o ls
  | [], _, _ => trivial
  | l :: ls, o, hr => by
    refine ⟨?_, reads_lv h hr.2⟩
    have h1 := hr.1
    rw [← h1]
    refine World.cell?_of_block (h.same b (.inr fun hh => ?_))
    have : w.cell? ⟨b, o, none⟩ = none := by simp [World.cell?, hh]
    rw [this] at h1
    cases h1
def rdRes (tmps : Array Value) : ResultVar → Sem Value := fun
  | .tmp t => pure (tmps.getD t undef)
  | .cell a t => do loadVar t (← asAddr (tmps.getD a undef))
theorem rdRes_tmp {tmps : Array Value} {t : Nat} {v : Value} (h : tmps[t]? = some v) (w : World) : (rdRes tmps (.tmp t)).run P w = .ok v w := by
  simp [rdRes, h]
theorem rdRes_cell {tmps : Array Value} {t : Nat} {ty : TypeId} {p : Pt} {v : Value} {w : World} (h : tmps[t]? = some (.pointer (some p.addr))) (hv : (loadVar ty ⟨p.b, p.o, none⟩).run P w = .ok v w) : (rdRes tmps (.cell t ty)).run P w = .ok v w := by
  simp [rdRes, h, asAddr, hv, Pt.addr]
theorem retS_ok {n : Nat} {e : Env} {a : Act} {w w' : World} (hA : Agr e a) (hl : Lv n w w') : ∀ {l : List ResultVar} {K : List V1 → WP}, retS P e l K w →
    ∃ vs, K vs w ∧ (l.mapM (rdRes a.tmps)).run P w' = .ok (vs.map V1.enc) w'
  | [], K, h => ⟨[], h, by simp⟩
  | .tmp t :: r, K, h => by
    obtain ⟨Y, hX, h⟩ : ∃ Y, retS P e (.tmp t :: r) K = Y ∧ Y w := ⟨_, rfl, h⟩
    simp only [retS] at hX
    split at hX
    · rename_i v hv
      subst hX
      obtain ⟨vs, hk, hr⟩ := retS_ok hA hl h
      have := hA.val hv
      refine ⟨v :: vs, hk, ?_⟩
      rw [List.mapM_cons]
      simp only [Sem.run_bind, rdRes_tmp this, Result.andThen_ok, hr, Sem.run_pure]
      rfl
    · subst hX; exact h.elim
  | .cell t ty :: r, K, h => by
    obtain ⟨Y, hX, h⟩ : ∃ Y, retS P e (.cell t ty :: r) K = Y ∧ Y w := ⟨_, rfl, h⟩
    simp only [retS] at hX
    split at hX
    · rename_i p c hp hs
      subst hX
      obtain ⟨x, hx, h⟩ := h
      obtain ⟨vs, hk, hr⟩ := retS_ok hA hl h
      have := hA.val hp
      obtain ⟨hg, d, hd⟩ := shT_lf hs
      refine ⟨_, hk, ?_⟩
      rw [List.mapM_cons]
      have hld := loadVar_lf (P := P) hd hg (reads_lv hl hx)
      simp only [Sem.run_bind, rdRes_cell this hld, Result.andThen_ok, hr, Sem.run_pure]
      rfl
    · rename_i p cs hp hs
      subst hX
      obtain ⟨x, hx, h⟩ := h
      obtain ⟨vs, hk, hr⟩ := retS_ok hA hl h
      have := hA.val hp
      obtain ⟨hg, ⟨d, hd⟩, hlen⟩ := shT_agg hs
      refine ⟨_, hk, ?_⟩
      rw [List.mapM_cons]
      have hld := loadVar_agg (P := P) hd hg (by rw [Ks.len]; exact hlen) (reads_lv hl hx)
      simp only [Sem.run_bind, rdRes_cell this hld, Result.andThen_ok, hr, Sem.run_pure]
      rfl
    · subst hX; exact h.elim
theorem results_ok {fn : Func} {a : Act} {w : World} {vs : List V1} (h : (fn.results.toList.mapM (rdRes a.tmps)).run P w = .ok (vs.map V1.enc) w) : (results fn a.tmps).run P w = .ok (retTV vs).enc w := by
  have e1 : results fn a.tmps = (fn.results.mapM (rdRes a.tmps) >>= fun vs => pure (if h : vs.size = 1 then vs[0] else .tuple vs)) := rfl
  rw [e1, Array.mapM_eq_mapM_toList]
  simp only [map_eq_pure_bind, Sem.run_bind]
  rw [h]
  simp only [Result.andThen_ok, Sem.run_pure]
  cases vs with
  | nil => rfl
  | cons v vs => cases vs with
    | nil => rfl
    | cons u us => simp [retTV, TV.enc]
theorem envOf_get (args : List V1) (n i : Nat) : (envOf n args).get i = match args[i]? with | some v => .val (.one v) | none => if i < n then .val und else .un := by
  have hg : ∀ (e : Env) (j : Nat), e.get j = (e[j]?).getD .un := fun e => by
    induction e with
    | nil => intro j; rfl
    | cons x e ih => intro j; cases j <;> simp [Env.get, ih]
  rw [hg]
  unfold envOf
  rw [List.getElem?_append]
  simp only [List.length_map, List.getElem?_map]
  by_cases hi : i < args.length
  · rw [if_pos hi, List.getElem?_eq_getElem hi]; rfl
  · rw [if_neg hi, List.getElem?_eq_none (by omega : args.length ≤ i), List.getElem?_replicate]
    by_cases h2 : i < n
    · rw [if_pos (by omega), if_pos h2]; rfl
    · rw [if_neg (by omega), if_neg h2]; rfl
theorem Agr.start {args : List V1} {n : Nat} (hn : args.length ≤ n) : Agr (envOf n args) { tmps := (args.map V1.enc).toArray ++ Array.replicate (n - (args.map V1.enc).toArray.size) undef, defers := [] } := by
  refine ⟨by simp [envOf], fun i => ?_⟩
  rw [envOf_get]
  split
  · rename_i v hv
    obtain ⟨hl, hv⟩ := List.getElem?_eq_some_iff.1 hv
    simp only [EntOk]
    rw [Array.getElem?_append_left (by simpa using hl)]
    simp [hl, hv, TV.enc]
  · rename_i hv
    split
    · rename_i hi
      simp only [EntOk]
      have hl : args.length ≤ i := by simpa using hv
      rw [Array.getElem?_append_right (by simpa using hl)]
      simp only [List.size_toArray, List.length_map, Array.getElem?_replicate]
      rw [if_pos (by omega)]
      rfl
    · trivial
theorem leavesM {fn : Func} {tmps : Array Value} {R : Ending → World → Prop} {n0 : Nat} : ∀ {ds : List Deferred} {w : World}, Marks n0 ds w →
    (∀ w', Lv n0 w w' → LeavesInM Fence.wide 0 P fn tmps R [] .returning w') → LeavesInM Fence.wide 0 P fn tmps R ds .returning w
  | [], w, _, h => h w ⟨rfl, rfl, rfl, rfl, fun _ _ => rfl⟩
  | d :: ds, w, hM, h => by
    obtain ⟨D, rfl, hD, ho⟩ := hM.all d (List.mem_cons_self)
    have hne : ∀ k, k ≠ D → (w.putObj D (.deferred none)).heap[k]? = w.heap[k]? := fun k hk => World.putObj_heap_other hk
    refine ⟨by simp, .inl ⟨D, w.putObj D (.deferred none), rfl, run_takeDeferred ho, leavesM (n0 := n0) ⟨?_, (List.pairwise_cons.1 hM.nd).2⟩ ?_⟩⟩
    · intro d hd
      obtain ⟨D', rfl, h1, h2⟩ := hM.all d (by simp [hd])
      have : D' ≠ D := fun hh => (List.pairwise_cons.1 hM.nd).1 _ hd (by rw [hh])
      exact ⟨D', rfl, h1, by rw [hne _ this]; exact h2⟩
    · intro w' hl
      refine h w' ⟨hl.os, hl.tape, hl.output, by rw [hl.size]; simp, fun k hk => ?_⟩
      have hkD : k ≠ D := by
        rintro rfl
        rcases hk with hk | hk
        · omega
        · exact hk ho
      rw [hl.same k (hk.imp id fun hh => by rw [hne k hkD]; exact hh), hne k hkD]
theorem callX_of_semF {f : FuncId} {fn : Func} {an : Ann} {args : List V1} {rs : List Sh} {R : Rs.T rs → WP} {A : WP} {w : World} (hf : P.funcs[f]? = some fn) (he : ent P f = true) (hn : Nat.ble args.length fn.ntmps = true)
    (hs : Same (semF P fn an args rs R) A) (h : A w) : CallX P f (args.map V1.enc) w fun v w' => ∃ x, v = (retTV (Rs.mk rs x)).enc ∧ R x w' := by
  rw [← hs.eq] at h
  refine .enters ⟨he, ?_⟩
  unfold semF at h
  cases hb : fn.body with
  | none => rw [hb] at h; exact h.elim
  | some c =>
    rw [hb] at h
    simp only at h
    refine callsIn_of_wp_marks hf hb trivial ?_
    have fin : ∀ e' a' w', St w.heap.size (writes c) (hasRange c) { tmps := (args.map V1.enc).toArray ++ Array.replicate (fn.ntmps - (args.map V1.enc).toArray.size) undef, defers := [] } e' a' w' →
        retS P e' fn.results.toList (fun vs => unRs rs vs fun x => match hasRange c with | true => leave w.heap.size (R x) | false => R x) w' →
        LeavesInM Fence.wide 0 P fn a'.tmps (fun e w' => ∃ v, e = .returned v ∧ ∃ x, v = (retTV (Rs.mk rs x)).enc ∧ R x w') a'.defers .returning w' := by
      intro e' a' w' s hret
      have key : ∀ w2, Lv w.heap.size w' w2 → (∃ x vs, Rs.mk rs x = vs ∧ (match hasRange c with | true => leave w.heap.size (R x) | false => R x) w' ∧ (results fn a'.tmps).run P w2 = .ok (retTV vs).enc w2) := by
        intro w2 hl
        obtain ⟨vs, hk, hr⟩ := retS_ok s.agr hl hret
        unfold unRs at hk
        cases hu : Rs.un rs vs with
        | none => rw [hu] at hk; exact hk.elim
        | some x =>
          rw [hu] at hk
          exact ⟨x, vs, Rs.un_some hu, hk, results_ok hr⟩
      cases hr : hasRange c with
      | false =>
        rw [s.df hr]
        obtain ⟨x, vs, h1, h2, h3⟩ := key w' ⟨rfl, rfl, rfl, rfl, fun _ _ => rfl⟩
        rw [hr] at h2
        exact ⟨_, h3, _, rfl, x, by rw [h1], h2⟩
      | true =>
        refine leavesM s.marks fun w2 hl => ?_
        obtain ⟨x, vs, h1, h2, h3⟩ := key w2 hl
        rw [hr] at h2
        exact ⟨_, h3, _, rfl, x, by rw [h1], h2 w2 hl⟩
    exact sem_ok c false an _ _ _ _ none w.heap.size _ w (bodyPostM Fence.wide 0 P fn _) (fun _ => rfl) (Agr.start (Nat.le_of_ble_eq_true hn)) (Marks.nil _ w) (Nat.le_refl _) h
      fin (fun _ _ _ _ _ hh => hh.elim) fin
/-- A function for which the model stands in. -/
theorem callX_extern {f : FuncId} {fn : Func} {x : Array Value → Sem Value} {args : List Value} {w w' : World} {v : Value} {R : Value → World → Prop} (hf : P.funcs[f]? = some fn) (hname : (fn.name == "runtime.NumGoroutine") = false)
    (hb : fn.body.isNone = true) (hn : Extern.findNext fn = none) (he : Extern.find fn = some x) (hx : (x args.toArray).run P w = .ok v w') (hR : R v w') : CallX P f args w R := by
  refine .now v w' ?_ hR
  rw [run_callFunc_extern hf hname hb hn he, hx]
  rfl
end Go.X
