/- The reading of Xb is sound, tenth part: code, by its making. -/
import Derived.Test.YtkideobegadadaaGreatXk
import Derived.Test.YtkideobegadadaaGreatXp
namespace Go.X
variable {P : Program}

theorem wide_in (l : Nat) : Fence.wide.inRound l = Fr (some l) := rfl
theorem memN_app {n : Nat} {xs ys : List Nat} (h : memN n (xs ++ ys) = false) : memN n xs = false ∧ memN n ys = false := by
  rw [memN_append] at h; simpa using h
theorem foldl_zip (ps : Array Nat) (vs : List Value) (tmps : Array Value) : (ps.zip vs.toArray).foldl (fun t (x : Nat × Value) => t.setIfInBounds x.1 x.2) tmps = (ps.toList.zip vs).foldl (fun t (x : Nat × Value) => t.setIfInBounds x.1 x.2) tmps := by
  rw [← Array.foldl_toList]; simp
theorem ext_put {w : World} {l : Nat} {o o' : Obj} (h : w.heap[l]? = some o) (hd : o ≠ openD) : Ext (at1 l) w (w.putObj l o') :=
  ⟨rfl, rfl, rfl, by simp, fun k _ hk => World.putObj_heap_other hk, fun k hk => by
    by_cases hkl : k = l
    · subst hkl; rw [h] at hk; exact absurd (Option.some.inj hk) hd
    · rw [World.putObj_heap_other hkl]; exact hk⟩

theorem Rs.len : ∀ (rs : List Sh) (x : Rs.T rs), (Rs.mk rs x).length = rs.length
  | [], _ => rfl
  | [_], _ => rfl
  | _ :: t :: r, x => by simp only [Rs.mk, List.length_cons]; rw [Rs.len (t :: r) x.2]; rfl
theorem sem_ok (c : Code) : ∀ (inR : Bool) (an : Ann) (e : Env) (kn : Env → WP) (kx : Nat → Env → WP) (kr : Env → WP) (r : Option Nat) (n0 : Nat) (a : Act) (w : World) (Q : Exit → Act → World → Prop),
    (inR = false → r = none) → Agr e a → Marks n0 a.defers w → n0 ≤ w.heap.size → sem P inR c an e kn kx kr w →
    (∀ e' a' w', St n0 (writes c) (hasRange c) a e' a' w' → kn e' w' → Q .normal a' w') →
    (∀ i e' a' w', St n0 (writes c) (hasRange c) a e' a' w' → kx i e' w' → Q (.exit i) a' w') →
    (∀ e' a' w', St n0 (writes c) (hasRange c) a e' a' w' → kr e' w' → Q .ret a' w') → c.wpIn (Fr r) 0 P Q a w := by
  induction c with
  | skip =>
    intro inR an e kn kx kr r n0 a w Q hro hA hM hz h hn hx hr
    cases an <;> exact wpIn_skip (hn e a w ⟨hA, KeepL.refl _ _, fun _ => rfl, hM, hz⟩ h)
  | label l =>
    intro inR an e kn kx kr r n0 a w Q hro hA hM hz h hn hx hr
    cases an <;> exact wpIn_label (hn e a w ⟨hA, KeepL.refl _ _, fun _ => rfl, hM, hz⟩ h)
  | region id ops draw =>
    intro inR an e kn kx kr r n0 a w Q hro hA hM hz h hn hx hr
    cases draw with
    | true =>
      cases an with
      | d t =>
        cases hc : (P.follows .mixedOrders && distinctD ops.toList) with
        | false => simp only [sem, hc] at h; exact h.elim
        | true =>
          simp only [sem, hc] at h
          simp only [Bool.and_eq_true] at hc
          refine draw_ok hc.1 hc.2 hA.clean h fun e' a' w' hA' hk hdf hd hK => ?_
          exact hn e' a' w' ⟨hA', hk, fun _ => hdf, by rw [hdf]; exact hM.dfr hd, Nat.le_trans hz hd.size⟩ hK
      | _ => exact h.elim
    | false =>
      have h' : opsS P ops.toList ops.toList 0 e kn w := by cases an <;> exact h
      refine wpIn_region_list (opsS_ok ops.toList 0 e a w kn hA h' fun e' a' w' hA' hk hdf hd hK => ?_)
      exact hn e' a' w' ⟨hA', hk, fun _ => hdf, by rw [hdf]; exact hM.dfr hd, Nat.le_trans hz hd.size⟩ hK
  | seq x y ihx ihy =>
    intro inR an e kn kx kr r n0 a w Q hro hA hM hz h hn hx hr
    have pre : ∀ {e1 a1 w1 e' a' w'}, St n0 (writes x) (hasRange x) a e1 a1 w1 → St n0 (writes y) (hasRange y) a1 e' a' w' → St n0 (writes (.seq x y)) (hasRange (.seq x y)) a e' a' w' := fun s1 s2 => s2.pre s1 (fun _ hh => hh) (fun hh => by simpa [hasRange] using hh)
    have wx : ∀ {e' a' w'}, St n0 (writes x) (hasRange x) a e' a' w' → St n0 (writes (.seq x y)) (hasRange (.seq x y)) a e' a' w' := fun s => s.up (fun n hh => (memN_app hh).1) (fun hh => by simp [hasRange] at hh; exact hh.1)
    cases an with
    | s p q =>
      have h' : sem P inR x p e (fun e1 => sem P inR y q e1 kn kx kr) kx kr w := h
      refine wpIn_seq (ihx inR p e _ kx kr r n0 a w _ hro hA hM hz h' ?_ ?_ ?_)
      · intro e1 a1 w1 s1 hk
        exact ihy inR q e1 kn kx kr r n0 a1 w1 Q hro s1.agr s1.marks s1.size hk (fun e' a' w' s hh => hn e' a' w' (pre s1 s) hh) (fun i e' a' w' s hh => hx i e' a' w' (pre s1 s) hh) (fun e' a' w' s hh => hr e' a' w' (pre s1 s) hh)
      · intro i e1 a1 w1 s1 hk; exact hx i e1 a1 w1 (wx s1) hk
      · intro e1 a1 w1 s1 hk; exact hr e1 a1 w1 (wx s1) hk
    | j sl p q =>
      cases hsl : slIn (writes x) sl with
      | false => simp only [sem, hsl] at h; exact h.elim
      | true =>
        simp only [sem, hsl] at h
        obtain ⟨J, hJ, h'⟩ := h
        refine wpIn_seq (ihx inR p e _ kx kr r n0 a w _ hro hA hM hz h' ?_ ?_ ?_)
        · intro e1 a1 w1 s1 hk
          obtain ⟨v, hv, hA1⟩ := pack_ok hA s1.keep s1.agr hk
          exact ihy inR q _ kn kx kr r n0 a1 w1 Q hro hA1 s1.marks s1.size (hJ v w1 hv) (fun e' a' w' s hh => hn e' a' w' (pre s1 s) hh) (fun i e' a' w' s hh => hx i e' a' w' (pre s1 s) hh) (fun e' a' w' s hh => hr e' a' w' (pre s1 s) hh)
        · intro i e1 a1 w1 s1 hk; exact hx i e1 a1 w1 (wx s1) hk
        · intro e1 a1 w1 s1 hk; exact hr e1 a1 w1 (wx s1) hk
    | _ => exact h.elim
  | cond c x y ihx ihy =>
    intro inR an e kn kx kr r n0 a w Q hro hA hM hz h hn hx hr
    have wx : ∀ {e' a' w'}, St n0 (writes x) (hasRange x) a e' a' w' → St n0 (writes (.cond c x y)) (hasRange (.cond c x y)) a e' a' w' := fun s => s.up (fun n hh => (memN_app hh).1) (fun hh => by simp [hasRange] at hh; exact hh.1)
    have wy : ∀ {e' a' w'}, St n0 (writes y) (hasRange y) a e' a' w' → St n0 (writes (.cond c x y)) (hasRange (.cond c x y)) a e' a' w' := fun s => s.up (fun n hh => (memN_app hh).2) (fun hh => by simp [hasRange] at hh; exact hh.2)
    cases an with
    | s p q =>
      obtain ⟨Y, hX, h⟩ : ∃ Y, sem P inR (.cond c x y) (.s p q) e kn kx kr = Y ∧ Y w := ⟨_, rfl, h⟩
      simp only [sem] at hX
      split at hX
      · rename_i t ht
        subst hX
        refine wpIn_cond (t := t) (evG_ok hA (Holds.nil a) ht) ?_
        cases t with
        | true => exact ihx inR p e kn kx kr r n0 a w Q hro hA hM hz h (fun e' a' w' s hh => hn e' a' w' (wx s) hh) (fun i e' a' w' s hh => hx i e' a' w' (wx s) hh) (fun e' a' w' s hh => hr e' a' w' (wx s) hh)
        | false => exact ihy inR q e kn kx kr r n0 a w Q hro hA hM hz h (fun e' a' w' s hh => hn e' a' w' (wy s) hh) (fun i e' a' w' s hh => hx i e' a' w' (wy s) hh) (fun e' a' w' s hh => hr e' a' w' (wy s) hh)
      · subst hX; exact h.elim
    | _ => exact h.elim
  | block id x ih =>
    intro inR an e kn kx kr r n0 a w Q hro hA hM hz h hn hx hr
    cases an with
    | b p =>
      have h' : sem P inR x p e kn (fun i e1 => isBy id i (kn e1) (kx i e1)) kr w := h
      refine wpIn_block (ih inR p e kn _ kr r n0 a w _ hro hA hM hz h' (fun e' a' w' s hh => hn e' a' w' s hh) ?_ (fun e' a' w' s hh => hr e' a' w' s hh))
      intro i e' a' w' s hh
      simp only [Exit.inBlock]
      rcases isBy_ok hh with ⟨h1, h2⟩ | ⟨h1, h2⟩
      · rw [if_pos h1]; exact hn e' a' w' s h2
      · rw [if_neg h1]; exact hx i e' a' w' s h2
    | bj sl p =>
      cases hsl : slIn (writes x) sl with
      | false => simp only [sem, hsl] at h; exact h.elim
      | true =>
        simp only [sem, hsl] at h
        obtain ⟨J, hJ, h'⟩ := h
        have fin : ∀ {e' a' w'}, St n0 (writes x) (hasRange x) a e' a' w' → packK sl e' J w' → Q .normal a' w' := fun s hh => by
          obtain ⟨v, hv, hA1⟩ := pack_ok hA s.keep s.agr hh
          exact hn _ _ _ ⟨hA1, s.keep, s.df, s.marks, s.size⟩ (hJ v _ hv)
        refine wpIn_block (ih inR p e _ _ kr r n0 a w _ hro hA hM hz h' (fun e' a' w' s hh => fin s hh) ?_ (fun e' a' w' s hh => hr e' a' w' s hh))
        intro i e' a' w' s hh
        simp only [Exit.inBlock]
        rcases isBy_ok hh with ⟨h1, h2⟩ | ⟨h1, h2⟩
        · rw [if_pos h1]; exact fin s h2
        · rw [if_neg h1]; exact hx i e' a' w' s h2
    | _ => exact h.elim
  | loop x ih =>
    intro inR an e kn kx kr r n0 a w Q hro hA hM hz h hn hx hr
    cases an with
    | l sl p =>
      cases hsl : slIn (writes x) sl with
      | false => simp only [sem, hsl] at h; exact h.elim
      | true =>
        simp only [sem, hsl] at h
        obtain ⟨x0, ⟨I, μ, hI0, hround⟩, hA0⟩ := pack_ok (c := x) hA (KeepL.refl _ a) hA h
        refine wpIn_loop' (fun m a' w' => ∃ v, I v w' ∧ μ v w' = m ∧ St n0 (writes x) (hasRange x) a (unpackK x sl e v) a' w') (μ x0 w) ⟨x0, hI0, rfl, hA0, KeepL.refl _ _, fun _ => rfl, hM, hz⟩ ?_
        rintro m a1 w1 ⟨v, hv, rfl, s1⟩
        have pre : ∀ {e' a' w'}, St n0 (writes x) (hasRange x) a1 e' a' w' → St n0 (writes x) (hasRange x) a e' a' w' := fun s2 => s2.pre s1 (fun n hh => by rw [memN_append, hh]; rfl) (fun hh => ⟨hh, hh⟩)
        refine ih inR p _ _ kx kr r n0 a1 w1 _ hro s1.agr s1.marks s1.size (hround v w1 hv) ?_ (fun i e' a' w' s hh => hx i e' a' w' (pre s) hh) (fun e' a' w' s hh => hr e' a' w' (pre s) hh)
        intro e2 a2 w2 s2 hh
        obtain ⟨v2, ⟨hv2, hlt⟩, hA2⟩ := pack_ok (c := x) hA (pre s2).keep s2.agr hh
        exact ⟨_, hlt, v2, hv2, rfl, hA2, (pre s2).keep, (pre s2).df, s2.marks, s2.size⟩
    | _ => exact h.elim
  | exit i =>
    intro inR an e kn kx kr r n0 a w Q hro hA hM hz h hn hx hr
    cases an <;> exact wpIn_exit (hx i e a w ⟨hA, KeepL.refl _ _, fun _ => rfl, hM, hz⟩ h)
  | goto l =>
    intro inR an e kn kx kr r n0 a w Q hro hA hM hz h hn hx hr
    cases an <;> exact h.elim
  | ret =>
    intro inR an e kn kx kr r n0 a w Q hro hA hM hz h hn hx hr
    cases an <;> exact wpIn_ret (hr e a w ⟨hA, KeepL.refl _ _, fun _ => rfl, hM, hz⟩ h)
  | scope x ih =>
    intro inR an e kn kx kr r n0 a w Q hro hA hM hz h hn hx hr
    have h' : sem P inR x an e kn kx kr w := by cases an <;> exact h
    exact wpIn_scope' (ih inR an e kn kx kr r n0 a w _ hro hA hM hz h' hn hx hr)
  | rangeFunc f ps as body iha ihb =>
    intro inR an e kn kx kr r n0 a w Q hro hA hM hz h hn hx hr
    cases an with
    | r rs p q =>
      obtain ⟨Y, hX, h⟩ : ∃ Y, sem P inR (.rangeFunc f ps as body) (.r rs p q) e kn kx kr = Y ∧ Y w := ⟨_, rfl, h⟩
      simp only [sem] at hX
      split at hX
      · rename_i fv hf
        split at hX
        · rename_i hlen
          subst hX
          have hlen := Nat.eq_of_beq_eq_true hlen
          cases hro rfl
          have hfe : a.eval f = fv.enc := evG_ok hA (Holds.nil a) hf
          refine wpIn_rangeFunc fun fn _ => ?_
          -- the record
          obtain ⟨rec, hrec⟩ : ∃ rec : Loop, rec = { state := .ready, pending := none, fn, tmps := a.tmps, params := ps, assign := as, body, defers := w.heap.size } := ⟨_, rfl⟩
          obtain ⟨pend, hpend⟩ : ∃ pend : Nat → Option Code, pend = fun j => match j with | 0 => none | 1 => some .ret | i + 2 => some (.exit i) := ⟨_, rfl⟩
          obtain ⟨st, hst⟩ : ∃ st : Nat → Obj, st = fun j => Obj.loop { rec with state := if (pend j).isNone then .ready else .done, pending := pend j } := ⟨_, rfl⟩
          obtain ⟨busy, hbusy⟩ : ∃ busy : Obj, busy = Obj.loop { rec with state := .busy } := ⟨_, rfl⟩
          have r1 : rec.fn = fn := by rw [hrec]
          have r2 : rec.params = ps := by rw [hrec]
          have r3 : rec.tmps = a.tmps := by rw [hrec]
          have r4 : rec.assign = as := by rw [hrec]
          have r5 : rec.body = body := by rw [hrec]
          have hst0 : st 0 = .loop rec := by rw [hst, hpend, hrec]; rfl
          obtain ⟨w1, hw1⟩ : ∃ w1 : World, w1 = { w with heap := (w.heap.push openD).push (.loop rec) } := ⟨_, rfl⟩
          have hext : Ext no1 w w1 := by rw [hw1]; exact (ext_alloc w openD).trans (ext_alloc _ _)
          have hl0 : w1.heap[w.heap.size + 1]? = some (st 0) := by
            rw [hst0, hw1]
            have := Array.getElem?_push_size (xs := w.heap.push openD) (x := Obj.loop rec)
            rwa [Array.size_push] at this
          have hD0 : w1.heap[w.heap.size]? = some openD := by rw [hw1]; simp [Array.getElem?_push]
          have hrun := h w1 (w.heap.size + 1) st busy (fun j => by rw [hst]; simp) (by rw [hbusy]; simp) hext (Nat.le_succ _) (by rw [hw1]; simp) hl0 ?_
          · -- the call
            cases fv with
            | nil => exact hrun.elim
            | mk g first cap =>
              cases g with
              | func g =>
                have hent : ent P g = true := hrun.1
                refine ⟨w.heap.size + 1, [markD w.heap.size], w1, { target := .fn (.func g) cap.toArray, args := first.toArray ++ #[Value.func (.yield (w.heap.size + 1)) #[] #[]] }, w1, g, (first ++ [Fv.enc (.mk (.yield (w.heap.size + 1)) [] [])] ++ cap).toArray, w1, ?_, ?_, fun _ _ => trivial, ?_, depth_fr, callsIn_fr (hrun.2.mono ?_)⟩
                · rw [hw1, hrec]; exact run_enterLoop_outer fn a.tmps ps as body
                · have e1 : resolve a.eval (rangeCall f (w.heap.size + 1)) 0 = Deferred.ofValue (a.eval f) (#[Operand.const (.func (.yield (w.heap.size + 1)) #[] #[])].map a.eval) := rfl
                  have e2 : #[Operand.const (.func (.yield (w.heap.size + 1)) #[] #[])].map a.eval = #[Value.func (.yield (w.heap.size + 1)) #[] #[]] := by simp [Act.eval]
                  rw [e1, e2, hfe]
                  simp [Fv.enc, Deferred.ofValue]
                · have : invoke (.fn (.func g) cap.toArray) (first.toArray ++ #[Value.func (.yield (w.heap.size + 1)) #[] #[]]) = callFunc g (first ++ [Fv.enc (.mk (.yield (w.heap.size + 1)) [] [])] ++ cap).toArray := by
                    simp [invoke, Fv.enc]
                  rw [this]
                  exact callFunc_run hent _ _
                · rintro en w2 ⟨v, rfl, hd, j, hj, hK⟩
                  have hj' : w2.heap[w.heap.size + 1]? = some (.loop { rec with state := if (pend j).isNone then .ready else .done, pending := pend j }) := by rw [hj, hst]
                  have hend := run_endLoop (P := P) hj' (by show (if (pend j).isNone then LoopState.ready else LoopState.done) ≠ .busy; split <;> simp)
                  obtain ⟨w4, hE, hend, hsz⟩ : ∃ w4, Ext (at1 (w.heap.size + 1)) w2 w4 ∧ (Instr.endLoop (w.heap.size + 1)).run P w2 = .ok (pend j) w4 ∧ w4.heap.size = w2.heap.size := ⟨_, ext_put hj' (by simp), hend, by simp⟩
                  have hKj := hK w4 hE hsz
                  have hdd : Dfr w w4 := hext.dfr.trans (hd.trans hE.dfr)
                  have hst' : St n0 (writes (.rangeFunc f ps as body)) (hasRange (.rangeFunc f ps as body)) a e { a with defers := [markD w.heap.size] ++ a.defers } w4 := by
                    refine ⟨⟨hA.len, hA.ok⟩, ⟨rfl, fun _ _ => rfl⟩, (fun hh => by cases hh), ⟨?_, ?_⟩, Nat.le_trans hz hdd.size⟩
                    · intro d hdm
                      rcases List.mem_append.1 hdm with hm | hm
                      · rw [List.mem_singleton] at hm
                        exact ⟨w.heap.size, hm, hz, hE.opn _ (hd.opn _ hD0)⟩
                      · exact (hM.dfr hdd).all d hm
                    · refine List.pairwise_cons.2 ⟨fun d hdm => ?_, hM.nd⟩
                      obtain ⟨D, rfl, h1, h2⟩ := hM.all d hdm
                      have hlt := (Array.getElem?_eq_some_iff.1 h2).1
                      intro hh
                      simp [markD] at hh
                      omega
                  refine ⟨pend j, w4, hend, ?_⟩
                  rcases jumpK_ok hKj with ⟨rfl, hk⟩ | ⟨rfl, hk⟩ | ⟨i, rfl, hk⟩
                  · rw [hpend]; exact hn e _ _ hst' hk
                  · rw [hpend]; exact wpIn_ret (hr e _ _ hst' hk)
                  · rw [hpend]; exact wpIn_exit (hx i e _ _ hst' hk)
              | _ => exact hrun.elim
          · -- one round
            intro x W R hB hW
            rw [hst0] at hW
            refine ⟨fn, (ps.zip ((Rs.mk rs x).map V1.enc).toArray).foldl (fun t (x : Nat × Value) => t.setIfInBounds x.1 x.2) a.tmps, as, body, ?_, ?_⟩
            · have hy := run_yield (P := P) (args := ((Rs.mk rs x).map V1.enc).toArray) hW (by rw [r2]; simp [← hlen, Rs.len])
              rw [r1, r2, r3, r4, r5] at hy
              exact hy
            refine roundIn_of_wpIn trivial ?_
            rw [wide_in, foldl_zip]
            have hA0 : Agr (putsE (cleanE e) ps.toList (Rs.mk rs x)) ⟨(ps.toList.zip ((Rs.mk rs x).map V1.enc)).foldl (fun t (x : Nat × Value) => t.setIfInBounds x.1 x.2) a.tmps, []⟩ :=
              putsE_ok (tmps := a.tmps) ⟨hA.clean.len, hA.clean.ok⟩
            refine iha true p _ _ _ _ (some _) 0 _ W _ (fun hh => by cases hh) hA0 (Marks.nil 0 W) (Nat.zero_le _) hB ?_ (fun _ _ _ _ _ hh => hh.elim) (fun _ _ _ _ hh => hh.elim)
            rintro e1 a1 w2 s1 ⟨hW1, hmid⟩
            rw [hst0] at hW1
            refine ⟨_, run_beginRound hW1 (by rw [hrec]), ?_⟩
            have hE1 := ext_put (o' := .loop { rec with state := .busy }) hW1 (by simp)
            have hb1 : (w2.putObj (w.heap.size + 1) (.loop { rec with state := .busy })).heap[w.heap.size + 1]? = some busy := by
              rw [hbusy]; exact World.putObj_heap_same (Array.getElem?_eq_some_iff.1 hW1).1
            have hbody := hmid _ hE1 hb1 (by simp)
            have last : ∀ (j : Nat) (W2 : World) (jump : Option Code) (b : Bool), pend j = jump → jump.isNone = b → W2.heap[w.heap.size + 1]? = some busy → (∀ W3, Ext (at1 (w.heap.size + 1)) W2 W3 → W3.heap[w.heap.size + 1]? = some (st j) → W3.heap.size = W2.heap.size → R (.bool b) W3) →
                ∃ v w', (Instr.endRound (w.heap.size + 1) jump).run P W2 = .ok v w' ∧ ∃ u, Ending.returned v = Ending.returned u ∧ R u w' := by
              intro j W2 jump b hj hb hW2 hk
              rw [hbusy] at hW2
              subst hj
              subst hb
              refine ⟨_, _, run_endRound (pend j) hW2, _, rfl, ?_⟩
              refine hk _ (ext_put hW2 (by simp)) ?_ (by simp)
              rw [World.putObj_heap_same (Array.getElem?_eq_some_iff.1 hW2).1, hst]
            refine ihb true q e1 _ _ _ (some _) 0 a1 _ _ (fun hh => by cases hh) s1.agr (s1.marks.dfr hE1.dfr) (Nat.zero_le _) hbody ?_ ?_ ?_
            · rintro e2 a2 w3 s2 ⟨h1, h2⟩
              exact last 0 w3 none true (by rw [hpend]) rfl h1 h2
            · rintro i e2 a2 w3 s2 ⟨h1, h2⟩
              exact last (i + 2) w3 (some (.exit i)) false (by rw [hpend]) rfl h1 h2
            · rintro e2 a2 w3 s2 ⟨h1, h2⟩
              exact last 1 w3 (some .ret) false (by rw [hpend]) rfl h1 h2
        · subst hX; exact h.elim
      · subst hX; exact h.elim
    | _ => exact h.elim
  | refuse why =>
    intro inR an e kn kx kr r n0 a w Q hro hA hM hz h hn hx hr
    cases an <;> exact h.elim
end Go.X
