/- The reading of Xb is sound: a region that draws its order, whole. -/
import Derived.Test.YtkideobegadadaaGreatXo
namespace Go.X
variable {P : Program}

section
variable {r : Option Nat} {ops : Array Oper} {Q : Exit → Act → World → Prop}
def Done (L : Array Bool) (i : Nat) : Prop := L[i]? = some true
/-- Operation i, where the slots of sl are as e has them, and what R names may be read, yields v, or is left out and yields nothing. -/
def Yld (P : Program) (r : Option Nat) (ops : Array Oper) (Q : Exit → Act → World → Prop) (i : Nat) (o : Oper) (sl : List Nat) (e : Env) (v : TV) (R : Option (Pt × List Lf)) : Prop :=
  ∀ (a : Act) (w : World) (K : Act → World → Prop), (∀ s ∈ sl, EntOk a s (e.get s)) → e.length = a.tmps.size → (∀ p ls, R = some (p, ls) → Reads w p.b p.o ls) → K (a.put o.dst v.enc) w → wpOpIn (Fr r) 0 P ops Q i K a w
structure Pend (P : Program) (r : Option Nat) (ops : Array Oper) (Q : Exit → Act → World → Prop) (e : Env) (lds : Lds) (w : World) (i : Nat) (o : Oper) (sl : List Nat) (v : TV) (R : Option (Pt × List Lf)) : Prop where
  at' : ops[i]? = some o
  fl : isF o.op = true
  haz : hazOk ops.toList i o sl = true
  yld : Yld P r ops Q i o sl e v R
  rd : ∀ p ls, R = some (p, ls) → Reads w p.b p.o ls
  ld : ∀ p ls, R = some (p, ls) → (i, p, ls) ∈ lds
  val : ∀ d, o.dst = some d → d < e.length → e.get d = .val v
structure Inv (P : Program) (r : Option Nat) (ops : Array Oper) (Q : Exit → Act → World → Prop) (a0 : Act) (w0 : World) (L : Array Bool) (V : Nat) (e : Env) (lds : Lds) (ord : List Nat) (a : Act) (w : World) : Prop where
  sz : L.size = ops.size
  bits : ∀ i, bit V i = true ↔ i ∈ ord
  lt : ∀ i ∈ ord, i < ops.size
  sub : ∀ i, Done L i → i ∈ ord
  clo : ∀ i o, ops[i]? = some o → Done L i → ∀ k, bit (afterM o) k = true → Done L k
  ordc : ∀ pre i post o, ord = pre ++ i :: post → ops[i]? = some o → ∀ k, bit (afterM o) k = true → k ∈ pre
  pend : ∀ i ∈ ord, ¬ Done L i → ∃ o sl v R, Pend P r ops Q e lds w i o sl v R
  len : e.length = a.tmps.size
  slot : ∀ s, (∃ j o, j ∈ ord ∧ ¬ Done L j ∧ ops[j]? = some o ∧ o.dst = some s) ∨ EntOk a s (e.get s)
  clean : ∀ s, e.get s = .un ∨ ∃ v, e.get s = .val v
  keep : KeepL (opsWrites ops.toList) a0 a
  df : a.defers = a0.defers
  dfr : Dfr w0 w
theorem Inv.vclo {a0 a : Act} {w0 w : World} {L : Array Bool} {V : Nat} {e : Env} {lds : Lds} {ord : List Nat} (h : Inv P r ops Q a0 w0 L V e lds ord a w) {i : Nat} {o : Oper} (hi : i ∈ ord) (ho : ops[i]? = some o) {k : Nat} (hk : bit (afterM o) k = true) : k ∈ ord := by
  obtain ⟨pre, post, hp⟩ := List.append_of_mem hi
  rw [hp]
  exact List.mem_append_left _ (h.ordc pre i post o hp ho k hk)
theorem list_at {i : Nat} : ops.toList[i]? = ops[i]? := by simp
theorem clean_ent {e : Env} (h : ∀ s, e.get s = .un ∨ ∃ v, e.get s = .val v) {a a' : Act} {s : Nat} (hs : a'.tmps[s]? = a.tmps[s]?) (hk : EntOk a s (e.get s)) : EntOk a' s (e.get s) := by
  rcases h s with hh | ⟨v, hh⟩
  · rw [hh]; trivial
  · rw [hh] at hk ⊢
    simp only [EntOk] at *
    rw [hs]; exact hk
/-- The slots that one reads, when it may come next, are as they are told. -/
theorem Inv.slots {a0 a : Act} {w0 w : World} {L : Array Bool} {V : Nat} {e : Env} {lds : Lds} {ord : List Nat} (h : Inv P r ops Q a0 w0 L V e lds ord a w) {i : Nat} {o : Oper} {sl : List Nat} (hh : hazOk ops.toList i o sl = true)
    (hr : ∀ k, bit (afterM o) k = true → Done L k) : ∀ s ∈ sl, EntOk a s (e.get s) := by
  intro s hs
  rcases h.slot s with ⟨j, oj, hj, hnd, hoj, hd⟩ | hk
  · exfalso
    rcases hazL_ok hh j oj s (by rw [list_at]; exact hoj) hd hs with h1 | ⟨h1, h2⟩ | ⟨h1, h2⟩
    · rw [Nat.zero_add] at h1; exact hnd (hr j h1)
    · obtain ⟨o', sl', v', R', hp⟩ := h.pend j hj hnd
      have : o' = oj := by have := hp.at'; rw [hoj] at this; exact (Option.some.inj this).symm
      subst this
      rw [hp.fl] at h2; cases h2
    · obtain ⟨o', sl', v', R', hp⟩ := h.pend j hj hnd
      have : o' = oj := by have := hp.at'; rw [hoj] at this; exact (Option.some.inj this).symm
      subst this
      rw [hp.fl] at h2; cases h2
  · exact hk
/-- A guard, looked at. -/
theorem guard_ok {o : Oper} {e : Env} {go skip : WP} {w : World} (h : guardS ops.toList o e go skip w) :
    (go w ∧ ∀ a, Agr e a → Region.wanted o (yielded ops a.tmps) = true) ∨ (skip w ∧ ∀ a, Agr e a → Region.wanted o (yielded ops a.tmps) = false) := by
  obtain ⟨Y, hX, h⟩ : ∃ Y, guardS ops.toList o e go skip = Y ∧ Y w := ⟨_, rfl, h⟩
  unfold guardS at hX
  split at hX
  · rename_i hg
    subst hX
    exact .inl ⟨h, fun a _ => by unfold Region.wanted; rw [hg]⟩
  · rename_i j want hg
    split at hX
    · subst hX; exact h.elim
    · rename_i sj hsj
      split at hX
      · rename_i b hb
        have hw : ∀ a, Agr e a → Region.wanted o (yielded ops a.tmps) = (some b == some want) := fun a hA => by
          have hv : a.tmps[sj]? = some (.bool b) := hA.val hb
          rw [wanted_some hg, yielded_at hsj, hv]
        split at hX
        · subst hX; exact .inl ⟨h, fun a hA => by rw [hw a hA]; rfl⟩
        · subst hX; exact .inl ⟨h, fun a hA => by rw [hw a hA]; rfl⟩
        · rename_i hn1 hn2
          subst hX
          refine .inr ⟨h, fun a hA => ?_⟩
          rw [hw a hA]
          cases b <;> cases want <;> first | rfl | exact (hn1 rfl rfl).elim | exact (hn2 rfl rfl).elim
      · rename_i hb
        subst hX
        refine .inr ⟨h, fun a hA => ?_⟩
        have hv : a.tmps[sj]? = some undef := hA.val hb
        rw [wanted_some hg, yielded_at hsj, hv]
        rfl
      · subst hX; exact h.elim
theorem brS_ok {g : Bool} {o : Oper} {e : Env} {k : Env → WP} {v : TV} {w : World} (h : brS g o e k v w) : k (setE e o.dst v) w := by
  cases g with
  | false => exact h
  | true =>
    obtain ⟨Y, hX, h⟩ : ∃ Y, brS true o e k v = Y ∧ Y w := ⟨_, rfl, h⟩
    simp only [brS] at hX
    split at hX
    · rename_i b
      subst hX
      cases b <;> exact h
    · subst hX; exact h
/-- The step in the frame: an operation's own slot, and no other. -/
theorem put_other (a : Act) (d : Option Nat) (v : Value) {s : Nat} (h : d ≠ some s) : (a.put d v).tmps[s]? = a.tmps[s]? := by
  cases d with
  | none => rfl
  | some d => rw [tmps_put, if_neg (fun hh => h (by rw [hh.1]))]
theorem put_keep {a0 a : Act} {i : Nat} {o : Oper} {v : Value} (hi : ops[i]? = some o) (h : KeepL (opsWrites ops.toList) a0 a) : KeepL (opsWrites ops.toList) a0 (a.put o.dst v) := by
  refine ⟨by rw [size_put, h.size], fun n hn => ?_⟩
  have : o.dst ≠ some n := by
    intro hd
    have hm : o ∈ ops.toList := by have := Array.mem_of_getElem? hi; exact Array.mem_toList_iff.2 this
    have : memN n (opsWrites ops.toList) = true := by
      clear hn h hi
      generalize ops.toList = l at hm
      induction l with
      | nil => cases hm
      | cons x l ih =>
        rcases List.mem_cons.1 hm with rfl | hm
        · simp only [opsWrites, hd, memN, Nat.beq_refl, Bool.true_or]
        · simp only [opsWrites]
          split
          · simp only [memN, ih hm, Bool.or_true]
          · exact ih hm
    rw [this] at hn; cases hn
  rw [put_other a o.dst v this, h.same n hn]
/-- One that waits is done. -/
theorem Inv.take {a0 a : Act} {w0 w : World} {L : Array Bool} {V : Nat} {e : Env} {lds : Lds} {ord : List Nat} (h : Inv P r ops Q a0 w0 L V e lds ord a w) {i : Nat} {o : Oper} {sl : List Nat} {v : TV} {R : Option (Pt × List Lf)}
    (hi : i ∈ ord) (hp : Pend P r ops Q e lds w i o sl v R) (hnd : ¬ Done L i) (hr : ∀ k, bit (afterM o) k = true → Done L k) :
    Inv P r ops Q a0 w0 (L.setIfInBounds i true) V e lds ord (a.put o.dst v.enc) w := by
  have hlt := h.lt i hi
  have hD : ∀ k, Done (L.setIfInBounds i true) k ↔ k = i ∨ Done L k := fun k => by
    unfold Done
    by_cases hk : k = i
    · subst hk; simp [h.sz, hlt]
    · rw [Array.getElem?_setIfInBounds_ne (Ne.symm hk)]; simp [hk]
  refine ⟨by simp [h.sz], h.bits, h.lt, fun k hk => ?_, fun k ok hok hk m hm => ?_, h.ordc, fun k hk hnk => h.pend k hk (fun hh => hnk ((hD k).2 (.inr hh))), by rw [size_put, h.len], fun s => ?_, h.clean, put_keep hp.at' h.keep, by rw [defers_put, h.df], h.dfr⟩
  · rcases (hD k).1 hk with rfl | hk
    · exact hi
    · exact h.sub k hk
  · rcases (hD k).1 hk with rfl | hk
    · have : ok = o := by rw [hp.at'] at hok; exact (Option.some.inj hok).symm
      subst this
      exact (hD m).2 (.inr (hr m hm))
    · exact (hD m).2 (.inr (h.clo k ok hok hk m hm))
  · by_cases hds : o.dst = some s
    · right
      by_cases hl : s < e.length
      · rw [hp.val s hds hl]
        simp only [EntOk]
        rw [hds, tmps_put, if_pos ⟨rfl, by rw [← h.len]; exact hl⟩]
      · rw [Env.get_past e s (Nat.not_lt.1 hl)]; trivial
    · rcases h.slot s with ⟨j, oj, hj, hnj, hoj, hdj⟩ | hk
      · by_cases hji : j = i
        · subst hji
          have : oj = o := by rw [hp.at'] at hoj; exact (Option.some.inj hoj).symm
          subst this
          exact absurd hdj hds
        · exact .inl ⟨j, oj, hj, fun hh => ((hD j).1 hh).elim hji hnj, hoj, hdj⟩
      · exact .inr (clean_ent h.clean (put_other a o.dst _ hds) hk)
theorem setE_clean {e : Env} (h : ∀ s, e.get s = .un ∨ ∃ v, e.get s = .val v) (d : Option Nat) (v : TV) : ∀ s, (setE e d v).get s = .un ∨ ∃ u, (setE e d v).get s = .val u := by
  intro s
  rw [setE_get]
  split
  · exact .inr ⟨v, rfl⟩
  · exact h s
/-- What waits still does, when another slot is written ahead. -/
theorem Pend.ahead {e : Env} {lds lds' : Lds} {w w' : World} {j : Nat} {oj : Oper} {sl : List Nat} {v u : TV} {R : Option (Pt × List Lf)} {d : Option Nat} (h : Pend P r ops Q e lds w j oj sl v R)
    (hsl : ∀ s ∈ sl, d ≠ some s) (hne : ∀ s, oj.dst = some s → d ≠ some s) (hl : ∀ x ∈ lds, x ∈ lds') (hw : ∀ p ls, R = some (p, ls) → Reads w' p.b p.o ls) : Pend P r ops Q (setE e d u) lds' w' j oj sl v R := by
  refine ⟨h.at', h.fl, h.haz, fun a w K h1 h2 h3 h4 => h.yld a w K (fun s hs => ?_) (by rw [← h2, setE_len]) h3 h4, hw, fun p ls hh => hl _ (h.ld p ls hh), fun s hs hlt => ?_⟩
  · have := h1 s hs
    rw [setE_get, if_neg (fun hh => hsl s hs hh.1)] at this
    exact this
  · rw [setE_len] at hlt
    rw [setE_get, if_neg (fun hh => hne s hs hh.1)]
    exact h.val s hs hlt
/-- One more is known, and waits. -/
theorem Inv.know {a0 a : Act} {w0 w : World} {L : Array Bool} {V : Nat} {e : Env} {lds lds' : Lds} {ord : List Nat} (h : Inv P r ops Q a0 w0 L V e lds ord a w) (hdis : distinctD ops.toList = true) {i : Nat} {o : Oper} {sl : List Nat} {v : TV} {R : Option (Pt × List Lf)}
    (ho : ops[i]? = some o) (hok : okD ops.toList i o sl V = true) (hF : isF o.op = true) (hl : ∀ x ∈ lds, x ∈ lds') (hR : ∀ p ls, R = some (p, ls) → Reads w p.b p.o ls ∧ (i, p, ls) ∈ lds') (hy : Yld P r ops Q i o sl e v R) :
    Inv P r ops Q a0 w0 L (setb V i) (setE e o.dst v) lds' (ord ++ [i]) a w := by
  simp only [okD, Bool.and_eq_true, Bool.not_eq_true'] at hok
  obtain ⟨hni, hsub, hhaz⟩ := hok
  have hni' : i ∉ ord := fun hh => by rw [(h.bits i).2 hh] at hni; cases hni
  have hlt : i < ops.size := (Array.getElem?_eq_some_iff.1 ho).1
  have hndi : ¬ Done L i := fun hh => hni' (h.sub i hh)
  have haft : ∀ k, bit (afterM o) k = true → k ∈ ord := fun k hk => (h.bits k).1 ((sub_ok.1 hsub) k hk)
  have hown : ∀ s ∈ sl, o.dst ≠ some s := by
    intro s hs hd
    rcases hazL_ok hhaz i o s (by rw [list_at]; exact ho) hd hs with h1 | ⟨h1, h2⟩ | ⟨h1, h2⟩
    · rw [Nat.zero_add] at h1; exact hni' (haft i h1)
    · rw [hF] at h2; cases h2
    · rw [hF] at h2; cases h2
  refine ⟨h.sz, fun k => ?_, fun k hk => ?_, fun k hk => List.mem_append_left _ (h.sub k hk), h.clo, fun pre k post ok hp hok k' hk' => ?_, fun k hk hnk => ?_, by rw [setE_len, h.len], fun s => ?_, setE_clean h.clean _ _, h.keep, h.df, h.dfr⟩
  · rw [bit_set]
    simp only [Bool.or_eq_true, h.bits k, decide_eq_true_eq, List.mem_append, List.mem_singleton, @eq_comm _ i k]
  · rcases List.mem_append.1 hk with hk | hk
    · exact h.lt k hk
    · rw [List.mem_singleton] at hk; rw [hk]; exact hlt
  · rcases List.append_eq_append_iff.1 hp with ⟨as, h1, h2⟩ | ⟨as, h1, h2⟩
    · cases as with
      | nil =>
        simp at h1 h2
        obtain ⟨rfl, _⟩ := h2
        have : ok = o := by rw [ho] at hok; exact (Option.some.inj hok).symm
        subst this
        rw [h1]; exact haft k' hk'
      | cons x as => simp at h2
    · cases as with
      | nil =>
        simp at h1 h2
        obtain ⟨rfl, _⟩ := h2
        have : ok = o := by rw [ho] at hok; exact (Option.some.inj hok).symm
        subst this
        rw [← h1]; exact haft k' hk'
      | cons x as =>
        simp at h2
        obtain ⟨rfl, h2⟩ := h2
        exact h.ordc pre k as ok h1 hok k' hk'
  · rcases List.mem_append.1 hk with hk | hk
    · obtain ⟨oj, sj, vj, Rj, hp⟩ := h.pend k hk hnk
      refine ⟨oj, sj, vj, Rj, hp.ahead (fun s hs hd => ?_) (fun s hs hd => ?_) hl hp.rd⟩
      · rcases hazL_ok hp.haz i o s (by rw [list_at]; exact ho) hd hs with h1 | ⟨h1, h2⟩ | ⟨h1, h2⟩
        · rw [Nat.zero_add] at h1; exact hni' (h.vclo hk hp.at' h1)
        · rw [hF] at h2; cases h2
        · rw [hF] at h2; cases h2
      · have := distinct_ok hdis i k o oj s (by rw [list_at]; exact ho) (by rw [list_at]; exact hp.at') hd hs
        exact hni' (this ▸ hk)
    · rw [List.mem_singleton] at hk
      subst hk
      refine ⟨o, sl, v, R, ho, hF, hhaz, fun a w K h1 h2 h3 h4 => hy a w K (fun s hs => ?_) (by rw [← h2, setE_len]) h3 h4, fun p ls hh => (hR p ls hh).1, fun p ls hh => (hR p ls hh).2, fun d hd hlt => ?_⟩
      · have := h1 s hs
        rw [setE_get, if_neg (fun hh => hown s hs hh.1)] at this
        exact this
      · rw [setE_len] at hlt
        rw [setE_get, if_pos ⟨hd, hlt⟩]
  · by_cases hd : o.dst = some s
    · exact .inl ⟨i, o, by simp, hndi, ho, hd⟩
    · rcases h.slot s with ⟨j, oj, hj, hnj, hoj, hdj⟩ | hk
      · exact .inl ⟨j, oj, List.mem_append_left _ hj, hnj, hoj, hdj⟩
      · right
        rw [setE_get, if_neg (fun hh => hd hh.1)]
        exact hk
/-- One that turns the world is done. -/
theorem Inv.turn {a0 a : Act} {w0 w w' : World} {L : Array Bool} {V : Nat} {e : Env} {lds : Lds} {ord : List Nat} (h : Inv P r ops Q a0 w0 L V e lds ord a w) (hdis : distinctD ops.toList = true) {i : Nat} {o : Oper} {sl : List Nat} {v : TV}
    (ho : ops[i]? = some o) (hok : okD ops.toList i o sl V = true) (hr : ∀ k, bit (afterM o) k = true → Done L k)
    (hrd : ∀ j p ls, (j, p, ls) ∈ lds → bit (ancM ops.toList i) j = false → Reads w p.b p.o ls → Reads w' p.b p.o ls) (hdf : Dfr w w') :
    Inv P r ops Q a0 w0 (L.setIfInBounds i true) (setb V i) (setE e o.dst v) lds (ord ++ [i]) (a.put o.dst v.enc) w' := by
  simp only [okD, Bool.and_eq_true, Bool.not_eq_true'] at hok
  obtain ⟨hni, hsub, hhaz⟩ := hok
  have hni' : i ∉ ord := fun hh => by rw [(h.bits i).2 hh] at hni; cases hni
  have hlt : i < ops.size := (Array.getElem?_eq_some_iff.1 ho).1
  have hndi : ¬ Done L i := fun hh => hni' (h.sub i hh)
  have haft : ∀ k, bit (afterM o) k = true → k ∈ ord := fun k hk => (h.bits k).1 ((sub_ok.1 hsub) k hk)
  have hD : ∀ k, Done (L.setIfInBounds i true) k ↔ k = i ∨ Done L k := fun k => by
    unfold Done
    by_cases hk : k = i
    · subst hk; simp [h.sz, hlt]
    · rw [Array.getElem?_setIfInBounds_ne (Ne.symm hk)]; simp [hk]
  have hanc : ∀ k, bit (ancM ops.toList i) k = true → k = i ∨ Done L k := by
    intro k hk
    refine ancs_ok (D := fun k => k = i ∨ Done L k) ops.toList [] ops.toList (by simp) (by simp) ?_ ?_ i (.inl rfl) k hk
    · intro j oj hoj hj m hm
      rw [list_at] at hoj
      rcases hj with hj | hj
      · have : oj = o := by rw [hj, ho] at hoj; exact (Option.some.inj hoj).symm
        subst this
        exact .inr (hr m hm)
      · exact .inr (h.clo j oj hoj hj m hm)
    · intro j _ k hk
      simp [bit] at hk
  refine ⟨by simp [h.sz], fun k => ?_, fun k hk => ?_, fun k hk => ?_, fun k ok hok hk m hm => ?_, fun pre k post ok hp hok k' hk' => ?_, fun k hk hnk => ?_, by rw [setE_len, size_put, h.len], fun s => ?_, setE_clean h.clean _ _, put_keep ho h.keep, by rw [defers_put, h.df], h.dfr.trans hdf⟩
  · rw [bit_set]
    simp only [Bool.or_eq_true, h.bits k, decide_eq_true_eq, List.mem_append, List.mem_singleton, @eq_comm _ i k]
  · rcases List.mem_append.1 hk with hk | hk
    · exact h.lt k hk
    · rw [List.mem_singleton] at hk; rw [hk]; exact hlt
  · rcases (hD k).1 hk with rfl | hk
    · simp
    · exact List.mem_append_left _ (h.sub k hk)
  · rcases (hD k).1 hk with rfl | hk
    · have : ok = o := by rw [ho] at hok; exact (Option.some.inj hok).symm
      subst this
      exact (hD m).2 (.inr (hr m hm))
    · exact (hD m).2 (.inr (h.clo k ok hok hk m hm))
  · rcases List.append_eq_append_iff.1 hp with ⟨as, h1, h2⟩ | ⟨as, h1, h2⟩
    · cases as with
      | nil =>
        simp at h1 h2
        obtain ⟨rfl, _⟩ := h2
        have : ok = o := by rw [ho] at hok; exact (Option.some.inj hok).symm
        subst this
        rw [h1]; exact haft k' hk'
      | cons x as => simp at h2
    · cases as with
      | nil =>
        simp at h1 h2
        obtain ⟨rfl, _⟩ := h2
        have : ok = o := by rw [ho] at hok; exact (Option.some.inj hok).symm
        subst this
        rw [← h1]; exact haft k' hk'
      | cons x as =>
        simp at h2
        obtain ⟨rfl, h2⟩ := h2
        exact h.ordc pre k as ok h1 hok k' hk'
  · have hki : k ≠ i := fun hh => hnk ((hD k).2 (.inl hh))
    have hkd : ¬ Done L k := fun hh => hnk ((hD k).2 (.inr hh))
    have hk : k ∈ ord := by
      rcases List.mem_append.1 hk with hk | hk
      · exact hk
      · rw [List.mem_singleton] at hk; exact absurd hk hki
    obtain ⟨oj, sj, vj, Rj, hp⟩ := h.pend k hk hkd
    refine ⟨oj, sj, vj, Rj, hp.ahead (fun s hs hd => ?_) (fun s hs hd => ?_) (fun _ hx => hx) (fun p ls hh => hrd k p ls (hp.ld p ls hh) ?_ (hp.rd p ls hh))⟩
    · rcases hazL_ok hp.haz i o s (by rw [list_at]; exact ho) hd hs with h1 | ⟨h1, h2⟩ | ⟨h1, h2⟩
      · rw [Nat.zero_add] at h1; exact hni' (h.vclo hk hp.at' h1)
      · exact hkd (hr k h1)
      · rw [Nat.zero_add] at h1; exact hki h1
    · have := distinct_ok hdis i k o oj s (by rw [list_at]; exact ho) (by rw [list_at]; exact hp.at') hd hs
      exact hni' (this ▸ hk)
    · cases hb : bit (ancM ops.toList i) k with
      | false => rfl
      | true => rcases hanc k hb with hh | hh
                · exact absurd hh hki
                · exact absurd hh hkd
  · by_cases hds : o.dst = some s
    · right
      rw [setE_get]
      by_cases hl : s < e.length
      · rw [if_pos ⟨hds, hl⟩]
        simp only [EntOk]
        rw [hds, tmps_put, if_pos ⟨rfl, by rw [← h.len]; exact hl⟩]
      · rw [if_neg (fun hh => hl hh.2), Env.get_past e s (Nat.not_lt.1 hl)]; trivial
    · rcases h.slot s with ⟨j, oj, hj, hnj, hoj, hdj⟩ | hk
      · refine .inl ⟨j, oj, List.mem_append_left _ hj, fun hh => ((hD j).1 hh).elim (fun hji => ?_) hnj, hoj, hdj⟩
        subst hji
        exact hni' hj
      · right
        rw [setE_get, if_neg (fun hh => hds hh.1)]
        exact clean_ent h.clean (put_other a o.dst _ hds) hk
/-- All that is known ahead, at once. -/
theorem run_f {a0 a : Act} {w0 w : World} {L : Array Bool} {K : Env → WP} (hdis : distinctD ops.toList = true) : ∀ (t : DT) (V : Nat) (e : Env) (lds : Lds) (ord : List Nat), Inv P r ops Q a0 w0 L V e lds ord a w → drawS P ops.toList K t V 0 e lds w →
    ∃ t' V' e' lds' ord', (t' = .fin ∨ isW t' = true) ∧ Inv P r ops Q a0 w0 L V' e' lds' ord' a w ∧ drawS P ops.toList K t' V' 0 e' lds' w
  | .fin, V, e, lds, ord, h, hd => ⟨_, _, _, _, _, .inl rfl, h, hd⟩
  | .w i sl t, V, e, lds, ord, h, hd => ⟨_, _, _, _, _, .inr rfl, h, hd⟩
  | .wa i sl t alt, V, e, lds, ord, h, hd => ⟨_, _, _, _, _, .inr rfl, h, hd⟩
  | .f i sl t, V, e, lds, ord, h, hd => by
    obtain ⟨Y, hX, hd⟩ : ∃ Y, drawS P ops.toList K (.f i sl t) V 0 e lds = Y ∧ Y w := ⟨_, rfl, hd⟩
    simp only [drawS] at hX
    split at hX
    · subst hX; exact hd.elim
    · rename_i o ho
      rw [list_at] at ho
      split at hX
      · rename_i hok
        subst hX
        simp only [Bool.and_eq_true] at hok
        obtain ⟨hok, hF⟩ := hok
        rcases guard_ok hd with ⟨hg, hw⟩ | ⟨hg, hw⟩
        · obtain ⟨hnd, v, l, hk, hR, hy⟩ := fop_ok hg
          have hk := brS_ok hk
          have hinv := h.know (lds' := addL i l lds) (R := l) (v := v) hdis ho hok hF (fun x hx => by cases l with
            | none => exact hx
            | some q => exact List.mem_cons_of_mem _ hx) (fun p ls hh => ⟨hR p ls hh, by rw [hh]; exact List.mem_cons_self⟩) (fun a w K h1 h2 h3 h4 => by
              have hA := agr_keep h2 h1
              unfold wpOpIn
              rw [ho]
              simp only
              rw [if_pos (hw a hA)]
              refine ⟨fun f _ => trivial, ?_⟩
              rw [Oper.semAt_eq _ _ _ hnd, hy a hA w h3]
              exact h4)
          exact run_f hdis t _ _ _ _ hinv hk
        · have hinv := h.know (lds' := lds) (R := none) (v := und) hdis ho hok hF (fun x hx => hx) (fun p ls hh => by cases hh) (fun a w K h1 h2 h3 h4 => by
              have hA := agr_keep h2 h1
              unfold wpOpIn
              rw [ho]
              simp only
              rw [if_neg (by rw [hw a hA]; simp)]
              exact ⟨fun f _ => trivial, h4⟩)
          exact run_f hdis t _ _ _ _ hinv hg
      · subst hX; exact hd.elim
/-- What is asked of one that comes next. -/
def Next (P : Program) (ops : Array Oper) (K : Env → WP) (i : Nat) (V : Nat) (e : Env) (lds : Lds) (w : World) : Prop :=
  ∃ o sl t, ops[i]? = some o ∧ okD ops.toList i o sl V = true ∧ guardS ops.toList o (keepE sl 0 e) (opS P (keepE sl 0 e) [] o fun v => chks lds (ancM ops.toList i) (brS (gBy i ops.toList) o e (fun e' => drawS P ops.toList K t (setb V i) 0 e' lds) v)) (drawS P ops.toList K t (setb V i) 0 (setE e o.dst und) lds) w
theorem next_ok {K : Env → WP} {V : Nat} {e : Env} {lds : Lds} {w : World} {i : Nat} {o : Oper} (ho : ops[i]? = some o) (hV : bit V i = false) (hs : subM (afterM o) V = true) : ∀ (t : DT) (C : Nat), isW t = true → drawS P ops.toList K t V C e lds w → bit C i = false → Next P ops K i V e lds w
  | .fin, _, h, _, _ => by cases h
  | .f _ _ _, _, h, _, _ => by cases h
  | .w j sl t, C, _, hd, hC => by
    obtain ⟨Y, hX, hd⟩ : ∃ Y, drawS P ops.toList K (.w j sl t) V C e lds = Y ∧ Y w := ⟨_, rfl, hd⟩
    simp only [drawS] at hX
    split at hX
    · subst hX; exact hd.elim
    · rename_i oj hoj
      rw [list_at] at hoj
      split at hX
      · rename_i hok
        subst hX
        simp only [Bool.and_eq_true] at hok
        obtain ⟨hok, hcov⟩ := hok
        by_cases hij : j = i
        · subst hij; exact ⟨oj, sl, t, hoj, hok, hd⟩
        · exfalso
          rcases covL_ok hcov i o (by rw [list_at]; exact ho) with h1 | h1 | h1
          · rw [Nat.zero_add, hV] at h1; cases h1
          · rw [Nat.zero_add, bit_set, hC] at h1; simp at h1; exact hij h1
          · rw [hs] at h1; cases h1
      · subst hX; exact hd.elim
  | .wa j sl t alt, C, _, hd, hC => by
    obtain ⟨Y, hX, hd⟩ : ∃ Y, drawS P ops.toList K (.wa j sl t alt) V C e lds = Y ∧ Y w := ⟨_, rfl, hd⟩
    simp only [drawS] at hX
    split at hX
    · subst hX; exact hd.elim
    · rename_i oj hoj
      rw [list_at] at hoj
      split at hX
      · rename_i hok
        subst hX
        simp only [Bool.and_eq_true] at hok
        obtain ⟨hok, hW⟩ := hok
        by_cases hij : j = i
        · subst hij; exact ⟨oj, sl, t, hoj, hok, hd.1⟩
        · exact next_ok ho hV hs alt (setb C j) hW hd.2 (by rw [bit_set, hC]; simpa using hij)
      · subst hX; exact hd.elim
theorem ready_iff {L : Array Bool} (hsz : L.size = ops.size) {i : Nat} : i ∈ Region.ready .any ops L ↔ ∃ o, ops[i]? = some o ∧ ¬ Done L i ∧ ∀ k, bit (afterM o) k = true → Done L k := by
  unfold Region.ready
  rw [List.mem_filter, List.mem_range]
  constructor
  · rintro ⟨hlt, h⟩
    have ho : ops[i]? = some ops[i] := Array.getElem?_eq_getElem hlt
    refine ⟨ops[i], ho, ?_, ?_⟩
    · intro hd
      unfold Done at hd
      simp [Array.getD_eq_getD_getElem?, hd] at h
    · intro k hk
      obtain ⟨e, he, hb, hek⟩ := afterL_ok.1 hk
      simp only [Bool.and_eq_true, ho, Option.map_some, Option.getD_some] at h
      have h2 := h.2
      rw [← Array.all_toList, List.all_eq_true] at h2
      have h2 := h2 e he
      rw [hb, hek] at h2
      simp [Array.getD_eq_getD_getElem?] at h2
      unfold Done
      cases hL : L[k]? with
      | none => rw [hL] at h2; simp at h2
      | some b => rw [hL] at h2; simp at h2; rw [h2]
  · rintro ⟨o, ho, hnd, h⟩
    obtain ⟨hlt, hoe⟩ := Array.getElem?_eq_some_iff.1 ho
    refine ⟨hlt, ?_⟩
    have hL : L[i]? = some L[i] := Array.getElem?_eq_getElem (by omega)
    have hf : L[i] = false := by
      cases hh : L[i] with
      | false => rfl
      | true => exact absurd (by unfold Done; rw [hL, hh]) hnd
    rw [Bool.and_eq_true]
    refine ⟨by simp [Array.getD_eq_getD_getElem?, hL, hf], ?_⟩
    simp only [ho, Option.map_some, Option.getD_some]
    rw [← Array.all_toList, List.all_eq_true]
    intro e he
    cases hb : Region.binds .any e with
    | false => simp
    | true =>
      have := h e.on (afterL_ok.2 ⟨e, he, hb, rfl⟩)
      unfold Done at this
      simp [Array.getD_eq_getD_getElem?, this]
theorem count_set {L : Array Bool} {i n : Nat} (hlt : i < L.size) (hnd : ¬ Done L i) (h : L.toList.count false ≤ n + 1) : (L.setIfInBounds i true).toList.count false ≤ n := by
  have hL : L[i] = false := by
    cases hh : L[i] with
    | false => rfl
    | true => exact absurd (by unfold Done; rw [Array.getElem?_eq_getElem hlt, hh]) hnd
  have h1 : (L.setIfInBounds i true).toList = L.toList.set i true := by simp
  rw [h1, List.count_set (by simpa using hlt)]
  have : L.toList[i]'(by simpa using hlt) = false := by simpa using hL
  simp only [this]
  have hpos : 0 < L.toList.count false := List.count_pos_iff.2 (by rw [← this]; exact List.getElem_mem _)
  generalize L.toList.count false = N at *
  simp
  omega
theorem draw_main {a0 : Act} {w0 : World} {K : Env → WP} (hdis : distinctD ops.toList = true) (hQ : ∀ e' a' w', Agr e' a' → KeepL (opsWrites ops.toList) a0 a' → a'.defers = a0.defers → Dfr w0 w' → K e' w' → Q .normal a' w') :
    ∀ (fuel : Nat) (L : Array Bool) (a : Act) (w : World) (V : Nat) (e : Env) (lds : Lds) (ord : List Nat) (t : DT), (t = .fin ∨ isW t = true) → Inv P r ops Q a0 w0 L V e lds ord a w → drawS P ops.toList K t V 0 e lds w →
      L.toList.count false ≤ fuel → wpAnyIn (Fr r) 0 P .any ops Q fuel L a w := by
  -- when none may come next, all are done
  have fin : ∀ (L : Array Bool) (a : Act) (w : World) (V : Nat) (e : Env) (lds : Lds) (ord : List Nat) (t : DT), (t = .fin ∨ isW t = true) → Inv P r ops Q a0 w0 L V e lds ord a w → drawS P ops.toList K t V 0 e lds w →
      Region.ready .any ops L = [] → Q .normal a w := by
    intro L a w V e lds ord t ht h hd hr
    have nor : ∀ i o, ops[i]? = some o → ¬ Done L i → (∀ k, bit (afterM o) k = true → Done L k) → False := fun i o ho hn hk => by
      have : i ∈ Region.ready .any ops L := (ready_iff h.sz).2 ⟨o, ho, hn, hk⟩
      rw [hr] at this; cases this
    -- all of V is done
    have hall : ∀ i ∈ ord, Done L i := by
      have : ∀ (post pre : List Nat), ord = pre ++ post → (∀ i ∈ pre, Done L i) → ∀ i ∈ post, Done L i := by
        intro post
        induction post with
        | nil => intro pre _ _ i hi; cases hi
        | cons x post ih =>
          intro pre hp hpre
          have hlt := h.lt x (by rw [hp]; simp)
          have ho : ops[x]? = some ops[x] := Array.getElem?_eq_getElem hlt
          have hx : Done L x := Classical.byContradiction fun hn => nor x _ ho hn fun k hk => hpre k (h.ordc pre x post _ hp ho k hk)
          intro i hi
          rcases List.mem_cons.1 hi with rfl | hi
          · exact hx
          · exact ih (pre ++ [x]) (by rw [hp]; simp) (fun j hj => by
              rcases List.mem_append.1 hj with hj | hj
              · exact hpre j hj
              · rw [List.mem_singleton] at hj; rw [hj]; exact hx) i hi
      exact this ord [] rfl (fun _ hh => by cases hh)
    have hA : Agr e a := ⟨h.len, fun s => by
      rcases h.slot s with ⟨j, oj, hj, hnj, _⟩ | hk
      · exact absurd (hall j hj) hnj
      · exact hk⟩
    have stuckW : ∀ j o (sl : List Nat), ops[j]? = some o → okD ops.toList j o sl V = true → False := fun j o sl ho hok => by
      simp only [okD, Bool.and_eq_true, Bool.not_eq_true'] at hok
      refine nor j o ho (fun hdn => ?_) (fun k hk => hall k ((h.bits k).1 ((sub_ok.1 hok.2.1) k hk)))
      rw [(h.bits j).2 (h.sub j hdn)] at hok
      exact absurd hok.1 (by simp)
    obtain ⟨Y, hX, hd⟩ : ∃ Y, drawS P ops.toList K t V 0 e lds = Y ∧ Y w := ⟨_, rfl, hd⟩
    cases t with
    | fin =>
      simp only [drawS] at hX
      split at hX
      · subst hX; exact hQ e a w hA h.keep h.df h.dfr hd
      · subst hX; exact hd.elim
    | f i sl t => rcases ht with ht | ht <;> cases ht
    | w i sl t =>
      simp only [drawS] at hX
      split at hX
      · subst hX; exact hd.elim
      · rename_i o ho
        rw [list_at] at ho
        split at hX
        · rename_i hok
          simp only [Bool.and_eq_true] at hok
          exact (stuckW i o sl ho hok.1).elim
        · subst hX; exact hd.elim
    | wa i sl t alt =>
      simp only [drawS] at hX
      split at hX
      · subst hX; exact hd.elim
      · rename_i o ho
        rw [list_at] at ho
        split at hX
        · rename_i hok
          simp only [Bool.and_eq_true] at hok
          exact (stuckW i o sl ho hok.1).elim
        · subst hX; exact hd.elim
  intro fuel
  induction fuel with
  | zero =>
    intro L a w V e lds ord t ht h hd hc
    have hr : Region.ready .any ops L = [] := by
      rw [List.eq_nil_iff_forall_not_mem]
      intro i hi
      obtain ⟨o, ho, hn, _⟩ := (ready_iff h.sz).1 hi
      have hlt := (Array.getElem?_eq_some_iff.1 ho).1
      have hltL : i < L.size := by rw [h.sz]; exact hlt
      have hL : L[i] = false := by
        cases hh : L[i] with
        | false => rfl
        | true => exact absurd (by unfold Done; rw [Array.getElem?_eq_getElem hltL, hh]) hn
      have : 0 < L.toList.count false := List.count_pos_iff.2 (by rw [← hL]; exact Array.mem_toList_iff.2 (Array.getElem_mem hltL))
      omega
    exact ⟨hr, fin L a w V e lds ord t ht h hd hr⟩
  | succ fuel ih =>
    intro L a w V e lds ord t ht h hd hc
    refine ⟨fin L a w V e lds ord t ht h hd, fun i hi => ?_⟩
    obtain ⟨o, ho, hn, hr⟩ := (ready_iff h.sz).1 hi
    have hlt := (Array.getElem?_eq_some_iff.1 ho).1
    have hcnt := count_set (by rw [h.sz]; exact hlt) hn hc
    by_cases hio : i ∈ ord
    · obtain ⟨o', sl, v, R, hp⟩ := h.pend i hio hn
      have : o' = o := by have := hp.at'; rw [ho] at this; exact (Option.some.inj this).symm
      subst this
      exact hp.yld a w _ (h.slots hp.haz hr) h.len hp.rd (ih _ _ _ _ _ _ _ t ht (h.take hio hp hn hr) hd hcnt)
    · have hVi : bit V i = false := by
        cases hb : bit V i with
        | false => rfl
        | true => exact absurd ((h.bits i).1 hb) hio
      have hsub : subM (afterM o) V = true := sub_ok.2 fun k hk => (h.bits k).2 (h.sub k (hr k hk))
      rcases ht with rfl | hW
      · exfalso
        simp only [drawS] at hd
        cases hf : fullL V ops.toList 0 with
        | false => rw [hf] at hd; exact hd.elim
        | true =>
          have := fullL_ok hf i (by simpa using hlt)
          rw [Nat.zero_add, hVi] at this; cases this
      · obtain ⟨o', sl, t', ho', hok, hg⟩ := next_ok ho hVi hsub t 0 hW hd (by simp [bit])
        have : o' = o := by rw [ho] at ho'; exact (Option.some.inj ho').symm
        subst this
        have hhaz : hazOk ops.toList i o' sl = true := by
          simp only [okD, Bool.and_eq_true] at hok; exact hok.2.2
        have hA := agr_keep h.len (h.slots hhaz hr)
        unfold wpOpIn
        rw [ho]
        simp only
        rcases guard_ok hg with ⟨hgo, hw⟩ | ⟨hsk, hw⟩
        · rw [if_pos (hw a hA)]
          refine opS_ok hA (Holds.nil a) hgo _ Q ?_
          intro v w' hdf hk
          obtain ⟨hk, hrd⟩ := chks_ok hk
          have hk := brS_ok hk
          have hinv := h.turn hdis (v := v) ho hok hr (fun j p ls h1 h2 _ => hrd j p ls h1 h2) hdf
          obtain ⟨t2, V2, e2, lds2, ord2, ht2, hinv2, hd2⟩ := run_f hdis t' _ _ _ _ hinv hk
          exact ih _ _ _ _ _ _ _ t2 ht2 hinv2 hd2 hcnt
        · rw [if_neg (by rw [hw a hA]; simp)]
          refine ⟨fun f _ => trivial, ?_⟩
          have hinv := h.turn hdis (v := und) (w' := w) ho hok hr (fun j p ls _ _ hh => hh) (Dfr.refl w)
          obtain ⟨t2, V2, e2, lds2, ord2, ht2, hinv2, hd2⟩ := run_f hdis t' _ _ _ _ hinv hsk
          exact ih _ _ _ _ _ _ _ t2 ht2 hinv2 hd2 hcnt
theorem cleanE_cl (e : Env) : ∀ s, (cleanE e).get s = .un ∨ ∃ v, (cleanE e).get s = .val v := by
  induction e with
  | nil => intro s; exact .inl rfl
  | cons x e ih => intro s; cases s with
    | zero => cases x <;> simp [cleanE, Env.get]
    | succ i => cases x <;> simpa [cleanE, Env.get] using ih i
theorem draw_ok {id : Nat} {a : Act} {w : World} {e : Env} {K : Env → WP} {t : DT} (hm : P.follows .mixedOrders = true) (hdis : distinctD ops.toList = true) (hA : Agr (cleanE e) a) (h : drw (drawS P ops.toList K t 0 0 (cleanE e) []) w)
    (hQ : ∀ e' a' w', Agr e' a' → KeepL (opsWrites ops.toList) a a' → a'.defers = a.defers → Dfr w w' → K e' w' → Q .normal a' w') : (Code.region id ops true).wpIn (Fr r) 0 P Q a w := by
  have h0 := h { w with drawn := w.drawn + 1 } ⟨rfl, rfl, rfl, Nat.le_refl _, fun _ _ _ => rfl, fun _ hh => hh⟩ rfl
  refine wpIn_region_any hm ?_
  have hinv : Inv P r ops Q a w (Array.replicate ops.size false) 0 (cleanE e) [] [] a { w with drawn := w.drawn + 1 } := by
    have nd : ∀ i, ¬ Done (Array.replicate ops.size false) i := fun i hi => by
      unfold Done at hi
      simp [Array.getElem?_replicate] at hi
    refine ⟨by simp, fun i => by simp [bit], fun i hi => (by cases hi), fun i hi => absurd hi (nd i), fun i _ _ hi => absurd hi (nd i), fun pre i post o hp => ?_, fun i hi => (by cases hi), hA.len, fun s => .inr (hA.ok s), cleanE_cl e, KeepL.refl _ _, rfl, ⟨Nat.le_refl _, fun _ hh => hh⟩⟩
    have := congrArg List.length hp
    simp at this
  obtain ⟨t2, V2, e2, lds2, ord2, ht2, hinv2, hd2⟩ := run_f hdis t _ _ _ _ hinv h0
  refine draw_main hdis hQ ops.size _ a _ V2 e2 lds2 ord2 t2 ht2 hinv2 hd2 ?_
  simp
end
end Go.X
