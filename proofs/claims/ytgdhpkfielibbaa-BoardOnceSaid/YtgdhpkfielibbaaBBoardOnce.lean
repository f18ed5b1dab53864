/- Contracts and plain facts: BoardOnce. -/
import Derived.Test.YtgdhpkfielibbaaBPlain
import Derived.Test.YtgdhpkfielibbaaBU64s
import Derived.Test.YtgdhpkfielibbaaBBoard
import Derived.Test.YtgdhpkfielibbaaBBoardLaws
import Derived.Test.YtgdhpkfielibbaaXw
import Derived.Test.YtgdhpkfielibbaaK
import Derived.Test.YtgdhpkfielibbaaF0
set_option linter.unusedVariables false
set_option linter.unusedSimpArgs false
namespace Go.X
open Go.Proofs
namespace BoardOnce
open Board BoardLaws
/-- What is not told yet. -/
def left : List Pc → Int
  | [] => 0
  | p :: l => (if pSk p then 0 else pTo p - pFrom p) + left l
def amts : List Pc → Int
  | [] => 0
  | p :: l => (pTo p - pFrom p) + amts l
theorem amts_append : ∀ a b : List Pc, amts (a ++ b) = amts a + amts b
  | [], b => by simp [amts]
  | p :: a, b => by simp only [List.cons_append, amts, amts_append a b]; omega
theorem _root_.Go.X.BoardLaws.Chain.lefts : ∀ {l : List Pc} {a e : Int}, Chain a l e → 0 ≤ left l ∧ left l ≤ e - a
  | [], a, e, h => ⟨Int.le_refl 0, by have : a ≤ e := h; simp only [left]; omega⟩
  | p :: l, a, e, h => by
    obtain ⟨h1, h2, _, h4⟩ := h
    have := h4.lefts
    simp only [left]; split <;> omega
theorem _root_.Go.X.BoardLaws.Chain.amtsLe : ∀ {l : List Pc} {a e : Int}, Chain a l e → (l.length : Int) ≤ amts l ∧ amts l ≤ e - a
  | [], a, e, h => ⟨Int.le_refl 0, by have : a ≤ e := h; simp only [amts]; omega⟩
  | p :: l, a, e, h => by
    obtain ⟨h1, h2, _, h4⟩ := h
    have := h4.amtsLe
    simp only [amts, List.length_cons]; omega
theorem left_pass : ∀ l : List Pc, left (passF l).1 = left l
  | [] => rfl
  | p :: l => by
    have ih := left_pass l
    simp only [passF]
    split
    · simp only [left, ih]; rfl
    · simp only [left, ih]
theorem left_map {f : Pc → Pc} (h : ∀ p, pSk (f p) = pSk p ∧ pTo (f p) = pTo p ∧ pFrom (f p) = pFrom p) : ∀ l : List Pc, left (l.map f) = left l
  | [] => rfl
  | p :: l => by
    obtain ⟨h1, h2, h3⟩ := h p
    simp only [List.map_cons, left, h1, h2, h3, left_map h l]
theorem left_ack (u : Int) (xs : List (Int × Int)) : ∀ l : List Pc, left (restL u xs l) + amts (toldL u xs l) = left l
  | [] => rfl
  | p :: l => by
    have ih := left_ack u xs l
    simp only [restL, toldL, List.filter_cons] at ih ⊢
    by_cases hs : pSk p = true
    · have ht : toldP u xs p = false := by simp [toldP, hs]
      rw [ht]
      simp only [Bool.false_eq_true, if_false]
      split
      · simp only [List.map_cons, left, markP, ht, Bool.false_eq_true, if_false, hs, if_true]; omega
      · simp only [left, hs, if_true]; omega
    · have hs : pSk p = false := by simpa using hs
      by_cases ht : toldP u xs p = true
      · rw [ht]
        simp only [if_true, amts]
        split
        · simp only [List.map_cons, left, markP, ht, if_true, hs, Bool.false_eq_true, if_false]
          have : pSk (setSk p) = true := rfl
          rw [this, if_pos rfl]; omega
        · simp only [left, hs, Bool.false_eq_true, if_false]; omega
      · have ht : toldP u xs p = false := by simpa using ht
        rw [ht]
        have hu : decide (p.2.1 ≤ u) = false := by
          simp only [toldP, hs, Bool.not_false, Bool.true_and, Bool.or_eq_false_iff] at ht
          exact ht.1
        simp only [hu, Bool.not_false, if_true, Bool.false_eq_true, if_false, List.map_cons, left, markP, ht, hs]; omega
theorem left_push (l : List Pc) (e t : Int) (s : Snt) : left (l ++ [mkPc e t s]) = left l + (t - e) := by
  induction l with
  | nil => simp [left, mkPc]
  | cons p l ih => simp only [List.cons_append, left, ih]; omega
theorem left_set {q : Pc} : ∀ {l : List Pc} {i : Nat} {p : Pc}, l[i]? = some p → pSk q = pSk p ∧ pTo q = pTo p ∧ pFrom q = pFrom p → left (l.set i q) = left l
  | [], _, _, h, _ => by cases h
  | y :: l, 0, p, h, ⟨h1, h2, h3⟩ => by cases h; simp only [List.set_cons_zero, left, h1, h2, h3]
  | y :: l, i + 1, p, h, hq => by simp only [List.set_cons_succ, left, left_set (l := l) (by simpa using h) hq]
theorem left_again (l : List Pc) (s : Snt) : left (againF l s) = left l := by
  unfold againF
  split
  · rename_i p hp
    split
    · rfl
    · exact left_set hp ⟨rfl, rfl, rfl⟩
  · rfl
/-- Where those stand that are not told. -/
def Fresh (had : List Int) (l : List Pc) : Prop := ∀ p ∈ l, pSk p = false → pFrom p ∉ had
theorem _root_.Go.X.BoardLaws.Chain.above : ∀ {l : List Pc} {a e : Int}, Chain a l e → ∀ p ∈ l, a ≤ pFrom p
  | q :: l, a, e, h, p, hp => by
    rcases List.mem_cons.1 hp with rfl | hp
    · exact h.1
    · have := h.2.2.2.above p hp
      have := h.1; have := h.2.1; omega
theorem _root_.Go.X.BoardLaws.Chain.apart : ∀ {l : List Pc} {a e : Int}, Chain a l e → ∀ p ∈ l, ∀ q ∈ l, pFrom p = pFrom q → p = q
  | y :: l, a, e, h, p, hp, q, hq, he => by
    have hab := h.2.2.2.above
    have h2 := h.2.1
    rcases List.mem_cons.1 hp with hp1 | hp1
    · rcases List.mem_cons.1 hq with hq1 | hq1
      · rw [hp1, hq1]
      · have := hab q hq1; rw [hp1] at he; omega
    · rcases List.mem_cons.1 hq with hq1 | hq1
      · have := hab p hp1; rw [hq1] at he; omega
      · exact h.2.2.2.apart p hp1 q hq1 he
theorem fresh_pass {had : List Int} : ∀ {l : List Pc}, Fresh had l → Fresh had (passF l).1
  | [], _ => fun p hp => by cases hp
  | y :: l, h => by
    have ih := fresh_pass (l := l) fun p hp => h p (by simp [hp])
    intro p hp hs
    simp only [passF] at hp
    split at hp
    · rcases List.mem_cons.1 hp with rfl | hp
      · exact h y (by simp) hs
      · exact ih p hp hs
    · rcases List.mem_cons.1 hp with rfl | hp
      · exact h p (by simp) hs
      · exact ih p hp hs
theorem fresh_ack {had : List Int} {u : Int} {xs : List (Int × Int)} {l : List Pc} {a e : Int} (hc : Chain a l e) (h : Fresh had l) : Fresh (had ++ (toldL u xs l).map (fun p => pFrom p)) (restL u xs l) := by
  intro p hp hs
  obtain ⟨q, hq, rfl⟩ := List.mem_map.1 hp
  have hq := (List.mem_filter.1 hq).1
  have hnt : toldP u xs q = false := by
    cases ht : toldP u xs q with
    | false => rfl
    | true => rw [markP, if_pos ht] at hs; cases hs
  rw [markP, hnt] at hs ⊢
  simp only [Bool.false_eq_true, if_false] at hs ⊢
  rw [List.mem_append]
  rintro (hh | hh)
  · exact h q hq hs hh
  · obtain ⟨r, hr, he⟩ := List.mem_map.1 hh
    obtain ⟨hr, hrt⟩ := List.mem_filter.1 hr
    have := hc.apart r hr q hq he
    rw [this, hnt] at hrt; cases hrt
theorem fresh_map {had : List Int} {f : Pc → Pc} (hf : ∀ p, pSk (f p) = pSk p ∧ pFrom (f p) = pFrom p) {l : List Pc} (h : Fresh had l) : Fresh had (l.map f) := by
  intro p hp hs
  obtain ⟨q, hq, rfl⟩ := List.mem_map.1 hp
  rw [(hf q).2]
  exact h q hq (by rw [← (hf q).1]; exact hs)
theorem fresh_again {had : List Int} {l : List Pc} (s : Snt) (h : Fresh had l) : Fresh had (againF l s) := by
  unfold againF
  split
  · rename_i p hp
    split
    · exact h
    · intro q hq hs
      rcases List.mem_or_eq_of_mem_set hq with hq | rfl
      · exact h q hq hs
      · exact h p (List.mem_iff_getElem?.2 ⟨_, hp⟩) hs
  · exact h
theorem lose_same (p : Pc) : pSk (loseP p) = pSk p ∧ pTo (loseP p) = pTo p ∧ pFrom (loseP p) = pFrom p := by
  unfold loseP; split <;> exact ⟨rfl, rfl, rfl⟩
/-- What was told, and what is left, is all. -/
structure OkT (n : Nat) (v : List Pc × Int) (told : Int) (had : List Int) : Prop extends OkB n v where
  sum : told + left v.1 = v.2
  fresh : Fresh had v.1
  small : (had.length : Int) ≤ told
  below : ∀ x ∈ had, x < v.2
def toldO (v : List Pc × Int) (o : OpR) : List Pc := if oK o.1 = 1 ∧ o.2.length ≤ 8 ∧ mayF v (oU o.1) o.2 = true then toldL (oU o.1) o.2 v.1 else []
theorem told_lt {n : Nat} {v : List Pc × Int} (h : OkB n v) (u : Int) (xs : List (Int × Int)) : ∀ x ∈ (toldL u xs v.1).map (fun p => pFrom p), x < v.2 := by
  intro x hx
  obtain ⟨p, hp, rfl⟩ := List.mem_map.1 hx
  have hp := (List.mem_filter.1 hp).1
  have hc := h.chain
  clear hx h
  generalize v.2 = e at hc
  generalize v.1 = l at hc hp
  generalize (0 : Int) = a at hc
  induction l generalizing a with
  | nil => cases hp
  | cons y l ih =>
    rcases List.mem_cons.1 hp with hp1 | hp1
    · have := hc.2.2.2.fin; have := hc.2.1; rw [hp1]; omega
    · exact ih hp1 _ hc.2.2.2
theorem OkT.step {n : Nat} {v : List Pc × Int} {told : Int} {had : List Int} (h : OkT n v told had) (o : OpR) : OkT (n + 1) (stepF v o) (told + amts (toldO v o)) (had ++ (toldO v o).map (fun p => pFrom p)) := by
  have hb := h.toOkB.step o
  have hm := mod5 (oN o.1)
  refine { hb with sum := ?_, fresh := ?_, small := ?_, below := ?_ }
  · have := h.sum
    unfold stepF toldO
    by_cases k1 : oK o.1 = 1
    · by_cases k2 : o.2.length ≤ 8 ∧ mayF v (oU o.1) o.2 = true
      · rw [if_pos k1, if_pos k2, if_pos ⟨k1, k2⟩]
        have := left_ack (oU o.1) o.2 v.1
        show _ + left (passF _).1 = v.2
        rw [left_pass]; omega
      · rw [if_pos k1, if_neg k2, if_neg (fun hh => k2 hh.2)]
        simp only [amts]; omega
    · rw [if_neg k1, if_neg (fun hh => k1 hh.1)]
      simp only [amts]
      split
      · show _ + left (v.1.map loseP) = v.2
        rw [left_map lose_same]; omega
      · split
        · show _ + left (againF _ _) = v.2
          rw [left_again]; omega
        · show _ + left (_ ++ [_]) = v.2 + 1 + _
          rw [left_push]; omega
  · have hf := h.fresh
    unfold stepF toldO
    by_cases k1 : oK o.1 = 1
    · by_cases k2 : o.2.length ≤ 8 ∧ mayF v (oU o.1) o.2 = true
      · rw [if_pos k1, if_pos k2, if_pos ⟨k1, k2⟩]
        exact fresh_pass (fresh_ack h.chain hf)
      · rw [if_pos k1, if_neg k2, if_neg (fun hh => k2 hh.2)]
        simpa using hf
    · rw [if_neg k1, if_neg (fun hh => k1 hh.1)]
      simp only [List.map_nil, List.append_nil]
      split
      · exact fresh_map (fun p => ⟨(lose_same p).1, (lose_same p).2.2⟩) hf
      · split
        · exact fresh_again _ hf
        · intro p hp hs
          have hp : p ∈ v.1 ++ [mkPc v.2 (v.2 + 1 + (IntKind.u64.wrap (oN o.1)).tmod 5000) (oT o.1)] := hp
          rw [List.mem_append, List.mem_singleton] at hp
          rcases hp with hp | rfl
          · exact hf p hp hs
          · intro hx
            have := h.below _ hx
            have : v.2 < v.2 := this
            omega
  · have := h.small
    unfold toldO
    split
    · have hc : Chain 0 (toldL (oU o.1) o.2 v.1) v.2 := h.chain.filter _
      have := hc.amtsLe
      rw [List.length_append, List.length_map]; omega
    · simp only [amts, List.map_nil, List.append_nil]; omega
  · have he : v.2 ≤ (stepF v o).2 := by
      unfold stepF
      split
      · split <;> exact Int.le_refl _
      · split
        · exact Int.le_refl _
        · split
          · exact Int.le_refl _
          · show v.2 ≤ v.2 + 1 + _; omega
    intro x hx
    rw [List.mem_append] at hx
    rcases hx with hx | hx
    · have := h.below x hx; omega
    · unfold toldO at hx
      split at hx
      · have := told_lt h.toOkB _ _ x hx; omega
      · cases hx
theorem _root_.Go.X.BoardLaws.Chain.take : ∀ {l : List Pc} {a e : Int} (k : Nat), Chain a l e → Chain a (l.take k) e
  | l, a, e, 0, h => by rw [List.take_zero]; exact h.fin
  | [], a, e, k + 1, h => h
  | p :: l, a, e, k + 1, h => ⟨h.1, h.2.1, h.2.2.1, h.2.2.2.take k⟩
theorem _root_.Go.X.BoardLaws.Chain.pos : ∀ {l : List Pc} {a e : Int}, Chain a l e → ∀ p ∈ l, 0 < pTo p - pFrom p ∧ pTo p ≤ e
  | q :: l, a, e, h, p, hp => by
    rcases List.mem_cons.1 hp with hp1 | hp1
    · have := h.2.1; have := h.2.2.2.fin; rw [hp1]; omega
    · exact h.2.2.2.pos p hp1
theorem rest_none {l : List Pc} {a e : Int} (h : Chain a l e) : restL e [] l = [] := by
  rw [restL, List.filter_eq_nil_iff.2 fun p hp => by have := (h.pos p hp).2; simp; exact this]; rfl
theorem okT0 : OkT 0 ([], 0) 0 [] := { okB0 with sum := rfl, fresh := fun p hp => (by cases hp), small := by simp, below := fun x hx => (by cases hx) }
theorem amts_take {l : List Pc} {k : Nat} {p : Pc} (h : l[k]? = some p) : amts (l.take (k + 1)) = amts (l.take k) + (pTo p - pFrom p) := by
  rw [List.take_add_one, h, amts_append]; simp [amts]
theorem from_take {l : List Pc} {k : Nat} {p : Pc} (h : l[k]? = some p) : (l.take (k + 1)).map (fun p => pFrom p) = (l.take k).map (fun p => pFrom p) ++ [pFrom p] := by
  rw [List.take_add_one, h]; simp
theorem not_before : ∀ {l : List Pc} {a e : Int} {k : Nat} {p : Pc}, Chain a l e → l[k]? = some p → pFrom p ∉ (l.take k).map (fun p => pFrom p)
  | y :: l, a, e, 0, p, h, hp => by simp
  | y :: l, a, e, k + 1, p, h, hp => by
    have hp : l[k]? = some p := by simpa using hp
    rw [List.take_succ_cons, List.map_cons, List.mem_cons]
    rintro (hh | hh)
    · have := h.2.2.2.above p (List.mem_iff_getElem?.2 ⟨k, hp⟩)
      have := h.2.1
      omega
    · exact not_before h.2.2.2 hp hh
theorem once_tri (d : Sl) (ps : List OpR) : Tri Try.prog N_canterlaw24_BoardOnce [.lf (.sl d)] [.lf .bool] (opsP d ps) (fun r => pur (r = true) emp) :=
  tri_0 (call_canterlaw24_BoardOnce _) fun w0 S R h => by
    unfold W_canterlaw24_BoardOnce
    have h : Own w0 S R w0 (rarr d KO (ps.map Prod.fst) ^ rl (fun p : OpR => rarr (oS p.1) KR p.2) ps) := h
    have hd := (h.rd (s := d)).2
    rw [List.length_map] at hd
    refine w_call new_tri (h.le (star_emp _ |>.trans (star_comm _ _))) fun r1 w h => ?_
    obtain ⟨b, h⟩ := h.exP
    obtain ⟨hr1, h⟩ := h.purP
    rw [hr1]
    refine w_call awake_tri (h.le (star_emp _ |>.trans (star_comm _ _))) fun r2 w h => ?_
    obtain ⟨hr2, h⟩ := h.purP
    rw [hr2]
    refine w_ite (fun c => by cases c) fun _ => ?_
    have h := h.nil KU
    have h : Own w0 S R w (brd b ([], 0) ^ arr ⟨none, 0, 0⟩ KU [] ^ rarr d KO (ps.map Prod.fst) ^ rl (fun p : OpR => rarr (oS p.1) KR p.2) ps) := h.fin
    refine w_loop (fun (y : Int × Sl × Int) => exq (fun x : (List Pc × Int) × List Int => OkT y.2.2.toNat x.1 y.1 x.2) (fun x => brd b x.1 ^ arr y.2.1 KU x.2 ^ rarr d KO (ps.map Prod.fst) ^ rl (fun p : OpR => rarr (oS p.1) KR p.2) ps)) (fun (y : Int × Sl × Int) => 0 ≤ y.2.2 ∧ y.2.2 ≤ 60) (fun (y : Int × Sl × Int) => (60 - y.2.2).toNat) (h.inq (([], 0), []) okT0).keep ⟨by simp, by simp⟩ ?_
    rintro (⟨told, sh, i⟩ : Int × Sl × Int) w ⟨h0, h1⟩ h
    obtain ⟨⟨v, had⟩, hv, h⟩ := h.outq1
    dsimp only at h0 h1 hv h ⊢
    have hvl := hv.few
    have hve := hv.low
    have hvp := hv.toOkB.pos
    have hsum := hv.sum
    have hleft := hv.chain.lefts
    have hsm := hv.small
    refine w_ite (fun c => ?_) fun c => ?_
    · have hc : i < ps.length ∧ i < 60 := by simp at c; omega
      have hi : i.toNat < ps.length := by omega
      obtain ⟨o, ho⟩ : ∃ o, ps[i.toNat]? = some o := ⟨_, at_some hi⟩
      have hom : (ps.map Prod.fst)[i.toNat]? = some o.1 := by rw [List.getElem?_map, ho]; rfl
      haveI := rd_ops ho
      have h : Own w0 S R w (rarr d KO (ps.map Prod.fst) ^ brd b v ^ arr sh KU had ^ rl (fun p : OpR => rarr (oS p.1) KR p.2) ps) := h.fin
      refine w_idx h h0 (by rw [List.length_map]; exact hi) ?_
      refine w_ldE h d i.toNat hom rfl ?_
      refine w_new h fun n7 w h => ?_
      refine w_setAll h (by rfl) fun w h => ?_
      refine w_join h (fun (y : Sl) => arr y K_u6b3 (toldO v o) ^ brd b (stepF v o) ^ arr sh KU had ^ rarr d KO (ps.map Prod.fst) ^ rl (fun p : OpR => rarr (oS p.1) KR p.2) ps) (fun _ => True) (fun (y : Sl) w _ h => ?_) ?_
      · have hs := hv.step o
        have hch : Chain 0 (toldO v o) v.2 := by
          unfold toldO
          split
          · exact hv.chain.filter _
          · show (0 : Int) ≤ v.2; omega
        have hfresh : ∀ p ∈ toldO v o, pFrom p ∉ had := by
          intro p hp
          unfold toldO at hp
          split at hp
          · obtain ⟨h1, h2⟩ := List.mem_filter.1 hp
            refine hv.fresh p h1 ?_
            simp only [toldP, Bool.and_eq_true, Bool.not_eq_true'] at h2
            exact h2.1
          · cases hp
        generalize toldO v o = l at h hs hch hfresh
        generalize stepF v o = v2 at h hs
        have hsl := hs.few
        have hse := hs.low
        have hs2 := hs.sum
        have hs3 := hs.chain.lefts
        have hal := hch.amtsLe
        have h : Own w0 S R w (arr y K_u6b3 l ^ arr sh KU (had ++ (l.take (0 : Int).toNat).map (fun p => pFrom p)) ^ brd b v2 ^ rarr d KO (ps.map Prod.fst) ^ rl (fun p : OpR => rarr (oS p.1) KR p.2) ps) := by
          have h := h.arrEq (s := sh) (K := KU) (ys := had ++ (l.take (0 : Int).toNat).map (fun p => pFrom p)) (by simp)
          exact h.fin
        refine w_loop (fun (x : Int × Sl × Int) => arr y K_u6b3 l ^ arr x.2.1 KU (had ++ (l.take x.2.2.toNat).map (fun p => pFrom p)) ^ brd b v2 ^ rarr d KO (ps.map Prod.fst) ^ rl (fun p : OpR => rarr (oS p.1) KR p.2) ps)
          (fun (x : Int × Sl × Int) => (0 ≤ x.2.2 ∧ x.2.2 ≤ l.length) ∧ x.1 = told + amts (l.take x.2.2.toNat)) (fun (x : Int × Sl × Int) => l.length - x.2.2.toNat) h ⟨⟨by simp, by simp⟩, by simp [amts]⟩ ?_
        rintro (⟨t, s3, k⟩ : Int × Sl × Int) w ⟨⟨k0, k1⟩, k2⟩ h
        dsimp only at k0 k1 k2 h ⊢
        have hly := (h.rd (s := y)).2
        have h' := h.le (star_swap _ _ _)
        have hls := (h'.rd (s := s3)).2
        refine w_ite (fun c => ?_) fun c => ?_
        · have hk : k.toNat < l.length := by simp at c; omega
          obtain ⟨p, hp⟩ : ∃ p, l[k.toNat]? = some p := ⟨_, at_some hk⟩
          have e : (k + 1).toNat = k.toNat + 1 := by omega
          have hat := amts_take hp
          have hft := from_take hp
          have hpm : p ∈ l := List.mem_iff_getElem?.2 ⟨_, hp⟩
          have hnin : pFrom p ∉ had ++ (l.take k.toNat).map (fun p => pFrom p) := by
            rw [List.mem_append]
            rintro (hh | hh)
            · exact hfresh p hpm hh
            · exact not_before hch hp hh
          have hlen : (had ++ (l.take k.toNat).map (fun p => pFrom p)).length ≤ 400000 := by
            rw [List.length_append, List.length_map, List.length_take]; omega
          refine w_idx h k0 hk ?_
          refine w_ldA h y k.toNat 0 p hp rfl (by decide) rfl ?_
          refine w_callL (A := emp) (Q := rarr s3 KU (had ++ (l.take k.toNat).map (fun p => pFrom p))) (U64s.u64_in_tri s3 (pFrom p) _ (by omega)) (h.le (star_emp _ |>.trans (star_comm _ _))) fun r27 w h => ?_
          obtain ⟨hr27, h⟩ := h.purP
          refine w_ite (fun c => absurd (hr27.1 c) hnin) fun _ => ?_
          have h : Own w0 S R w (arr y K_u6b3 l ^ arr s3 KU (had ++ (l.take k.toNat).map (fun p => pFrom p)) ^ brd b v2 ^ rarr d KO (ps.map Prod.fst) ^ rl (fun p : OpR => rarr (oS p.1) KR p.2) ps) := h.fin
          refine w_idx h k0 hk ?_
          refine w_ldA h y k.toNat 0 p hp rfl (by decide) rfl ?_
          refine w_new h fun n w h => ?_
          have h := h.blkArr n KU [pFrom p] rfl (by simp)
          refine w_app (s := s3) (x := ⟨some ⟨n, 0⟩, 1, 1⟩) h rfl (by simp only [List.length_singleton]; omega) fun s31 w _ h => ?_
          refine w_drw h fun w h => ?_
          have h := h.take (arr y K_u6b3 l)
          refine w_idx h k0 hk (w_idx h k0 hk ?_)
          refine w_ldA h y k.toNat 1 p hp rfl (by decide) rfl ?_
          refine w_ldA h y k.toNat 0 p hp rfl (by decide) rfl ?_
          have h := h.arrEq (s := s31) (K := KU) (ys := had ++ (l.take (k.toNat + 1)).map (fun p => pFrom p)) (by rw [hft, List.append_assoc])
          have hadd : IntKind.u64.wrap (IntKind.u64.wrap (t + pTo p) - pFrom p) = t + (pTo p - pFrom p) := by
            have hpos := hch.above p hpm
            have n1 := (hch.take (k.toNat + 1)).amtsLe
            have n2 := (hch.take k.toNat).amtsLe
            have n3 := hch.pos p hpm
            rw [add_sub, wu (n := pTo p - pFrom p) (by omega) (by omega), wu (by omega) (by omega)]
          have hadd' : IntKind.u64.wrap (IntKind.u64.wrap (t + p.2.1) - p.1) = t + (pTo p - pFrom p) := hadd
          rw [hadd', wi (n := k + 1) (by omega) (by omega)]
          refine ⟨⟨⟨⟨by show 0 ≤ k + 1; omega, by show k + 1 ≤ _; omega⟩, by show t + _ = told + amts (l.take (k + 1).toNat); rw [e, hat]; omega⟩, ?_⟩, by show _ - (k + 1).toNat < _; omega⟩
          show Own w0 S R w (arr y K_u6b3 l ^ arr s31 KU (had ++ (l.take (k + 1).toNat).map (fun p => pFrom p)) ^ brd b v2 ^ rarr d KO (ps.map Prod.fst) ^ rl (fun p : OpR => rarr (oS p.1) KR p.2) ps)
          rw [e]
          exact h.fin
        · have hk : k.toNat = l.length := by simp at c; omega
          rw [hk, List.take_length] at k2 h
          rw [wi (n := i + 1) (by omega) (by omega)]
          have e : (i + 1).toNat = i.toNat + 1 := by omega
          have h : Own w0 S R w (brd b v2 ^ arr s3 KU (had ++ l.map (fun p => pFrom p)) ^ rarr d KO (ps.map Prod.fst) ^ rl (fun p : OpR => rarr (oS p.1) KR p.2) ps) := h.fin
          refine ⟨⟨⟨by show 0 ≤ i + 1; omega, by show i + 1 ≤ 60; omega⟩, ?_⟩, by show (60 - (i + 1)).toNat < _; omega⟩
          show Own w0 S R w (exq (fun x : (List Pc × Int) × List Int => OkT (i + 1).toNat x.1 t x.2) (fun x => brd b x.1 ^ arr s3 KU x.2 ^ rarr d KO (ps.map Prod.fst) ^ rl (fun p : OpR => rarr (oS p.1) KR p.2) ps))
          rw [e, k2]
          exact (h.inq (v2, had ++ l.map (fun p => pFrom p)) hs).keep
      · have hnil : ∀ {w : World} {F : SP}, Own w0 S R w F → oK o.1 ≠ 1 ∨ ¬ (o.2.length ≤ 8 ∧ mayF v (oU o.1) o.2 = true) → Own w0 S R w (arr ⟨none, 0, 0⟩ K_u6b3 (toldO v o) ^ F) := by
          intro w F h hh
          have e : toldO v o = [] := by rw [toldO, if_neg]; rintro ⟨a, c⟩; rcases hh with hh | hh; exact hh a; exact hh c
          rw [e]; exact h.nil K_u6b3
        refine w_ld h rfl ?_
        refine w_ite (fun c => ?_) fun c => ?_
        · have k1 : oK o.1 = 1 := by simpa using c
          have hstep : stepF v o = if o.2.length ≤ 8 ∧ mayF v (oU o.1) o.2 = true then ((passF (restL (oU o.1) o.2 v.1)).1, v.2) else v := by rw [stepF, if_pos k1]
          refine w_ld h rfl ?_
          have hsl : o.1.2.2.2.2.1.len = o.2.length := (h.rd (s := oS o.1)).2
          refine w_ite (fun c => ?_) fun c => ?_
          · have h8 : o.2.length ≤ 8 := by simp at c; omega
            refine w_ld h rfl (w_ld h rfl ?_)
            by_cases hm : mayF v (oU o.1) o.2 = true
            · rw [if_pos ⟨h8, hm⟩] at hstep
              have htold : toldO v o = toldL (oU o.1) o.2 v.1 := by rw [toldO, if_pos ⟨k1, h8, hm⟩]
              refine w_callL (A := brd b v) (Q := rarr (oS o.1) KR o.2) (ack_tri b v (oU o.1) (oS o.1) o.2 (by omega) (by omega) hm) h fun r w h => ?_
              obtain ⟨_, h⟩ := h.purP
              exact ⟨trivial, by rw [hstep, htold]; exact h.fin⟩
            · rw [if_neg (fun hh => hm hh.2)] at hstep
              refine w_callL (A := brd b v) (Q := rarr (oS o.1) KR o.2) (ack_no2_tri b v (oU o.1) (oS o.1) o.2 (by omega) (by simpa using hm)) h fun r w h => ?_
              obtain ⟨hr, h⟩ := h.purP
              rw [hr.1]
              have h := hnil h (.inr fun hh => hm hh.2)
              exact ⟨trivial, by rw [hstep]; exact h.fin⟩
          · have h8 : ¬ o.2.length ≤ 8 := by simp at c; omega
            rw [if_neg (fun hh => h8 hh.1)] at hstep
            have h := hnil h (.inr fun hh => h8 hh.1)
            exact ⟨trivial, by rw [hstep]; exact h.fin⟩
        · have k1 : ¬ oK o.1 = 1 := by simpa using c
          have h := hnil h (.inl k1)
          refine w_ite (fun c => ?_) fun c => ?_
          · have k2 : oK o.1 = 2 := by simpa using c
            refine w_call (lose_tri b v (by omega)) h fun r w h => ?_
            obtain ⟨_, h⟩ := h.purP
            exact ⟨trivial, by rw [stepF, if_neg k1, if_pos k2]; exact h.fin⟩
          · have k2 : ¬ oK o.1 = 2 := by simpa using c
            refine w_ite (fun c => ?_) fun c => ?_
            · have k3 : oK o.1 = 3 := by simpa using c
              refine w_ld h rfl ?_
              refine w_call (Again_tri b (oT o.1) v (by omega)) h fun r w h => ?_
              obtain ⟨_, h⟩ := h.purP
              exact ⟨trivial, by rw [stepF, if_neg k1, if_neg k2, if_pos k3]; exact h.fin⟩
            · have k3 : ¬ oK o.1 = 3 := by simpa using c
              refine w_drw h fun w h => ?_
              refine w_ld h rfl (w_ld h rfl ?_)
              refine w_call (end_tri b v) h fun r w h => ?_
              obtain ⟨hr20, h⟩ := h.purP
              refine w_chk h rfl (w_chk h rfl ?_)
              refine w_call (end_tri b v) h fun r w h => ?_
              obtain ⟨hr21, h⟩ := h.purP
              refine w_chk h rfl (w_chk h rfl ?_)
              rw [hr20, hr21]
              obtain ⟨e1, e2⟩ := sent_end hv.toOkB (by omega) (oN o.1) (oT o.1)
              have e1' : IntKind.u64.wrap (IntKind.u64.wrap (v.2 + 1) + (IntKind.u64.wrap o.1.2.1).tmod 5000) = v.2 + 1 + (IntKind.u64.wrap (oN o.1)).tmod 5000 := e1
              rw [e1']
              refine w_call (sent_tri b v.2 _ (oT o.1) v) h fun r w h => ?_
              rw [e2] at h
              obtain ⟨_, h⟩ := h.purP
              exact ⟨trivial, by rw [stepF, if_neg k1, if_neg k2, if_neg k3]; exact h.fin⟩
    · have hm : mayF v v.2 [] = true := by simp [mayF]
      have hrest := rest_none hv.chain
      have hla := left_ack v.2 [] v.1
      rw [hrest] at hla
      have hch : Chain 0 (toldL v.2 [] v.1) v.2 := hv.chain.filter _
      have hfresh : ∀ p ∈ toldL v.2 [] v.1, pFrom p ∉ had := by
        intro p hp
        obtain ⟨h1, h2⟩ := List.mem_filter.1 hp
        refine hv.fresh p h1 ?_
        simp only [toldP, Bool.and_eq_true, Bool.not_eq_true'] at h2
        exact h2.1
      refine w_call (end_tri b v) (h.le (star_emp _)) fun r36 w h => ?_
      obtain ⟨hr36, h⟩ := h.purP
      rw [hr36]
      refine w_callL (A := brd b v) (Q := rarr ⟨none, 0, 0⟩ KR []) (ack_tri b v v.2 ⟨none, 0, 0⟩ [] (by omega) (by decide) hm) h fun r37 w h => ?_
      obtain ⟨hr37, h⟩ := h.purP
      rw [hrest] at h
      have hpn : (passF []).1 = [] := rfl
      rw [hpn] at h
      generalize toldL v.2 [] v.1 = l at h hla hch hfresh
      have hal := hch.amtsLe
      have h : Own w0 S R w (arr r37.1 K_u6b3 l ^ arr sh KU had ^ brd b ([], v.2)) := h.fin
      refine w_loop (fun (_ : Int × Int) => arr r37.1 K_u6b3 l ^ arr sh KU had ^ brd b ([], v.2)) (fun (x : Int × Int) => (0 ≤ x.2 ∧ x.2 ≤ l.length) ∧ x.1 = told + amts (l.take x.2.toNat)) (fun (x : Int × Int) => l.length - x.2.toNat) h ⟨⟨by simp, by simp⟩, by simp [amts]⟩ ?_
      rintro (⟨t, k⟩ : Int × Int) w ⟨⟨k0, k1⟩, k2⟩ h
      dsimp only at k0 k1 k2 h ⊢
      have hly := (h.rd (s := r37.1)).2
      refine w_ite (fun c => ?_) fun c => ?_
      · have hk : k.toNat < l.length := by simp at c; omega
        obtain ⟨p, hp⟩ : ∃ p, l[k.toNat]? = some p := ⟨_, at_some hk⟩
        have e : (k + 1).toNat = k.toNat + 1 := by omega
        have hat := amts_take hp
        have hpm : p ∈ l := List.mem_iff_getElem?.2 ⟨_, hp⟩
        refine w_idx h k0 hk ?_
        refine w_ldA h r37.1 k.toNat 0 p hp rfl (by decide) rfl ?_
        have h' := h.le (star_swap _ _ _)
        refine w_callL (A := emp) (Q := rarr sh KU had) (U64s.u64_in_tri sh (pFrom p) had (by omega)) (h'.le (star_emp _ |>.trans (star_comm _ _))) fun r42 w h => ?_
        obtain ⟨hr42, h⟩ := h.purP
        refine w_ite (fun c => absurd (hr42.1 c) (hfresh p hpm)) fun _ => ?_
        have h : Own w0 S R w (arr r37.1 K_u6b3 l ^ arr sh KU had ^ brd b ([], v.2)) := h.fin
        refine w_drw h fun w h => ?_
        refine w_idx h k0 hk (w_idx h k0 hk ?_)
        refine w_ldA h r37.1 k.toNat 1 p hp rfl (by decide) rfl ?_
        refine w_ldA h r37.1 k.toNat 0 p hp rfl (by decide) rfl ?_
        have hadd : IntKind.u64.wrap (IntKind.u64.wrap (t + p.2.1) - p.1) = t + (pTo p - pFrom p) := by
          have n1 := (hch.take (k.toNat + 1)).amtsLe
          have n2 := (hch.take k.toNat).amtsLe
          have n3 := hch.pos p hpm
          show IntKind.u64.wrap (IntKind.u64.wrap (t + pTo p) - pFrom p) = _
          rw [add_sub, wu (n := pTo p - pFrom p) (by omega) (by omega), wu (by omega) (by omega)]
        rw [hadd, wi (n := k + 1) (by omega) (by omega)]
        exact ⟨⟨⟨⟨by show 0 ≤ k + 1; omega, by show k + 1 ≤ _; omega⟩, by show t + _ = told + amts (l.take (k + 1).toNat); rw [e, hat]; omega⟩, h⟩, by show _ - (k + 1).toNat < _; omega⟩
      · have hk : k.toNat = l.length := by simp at c; omega
        rw [hk, List.take_length] at k2
        have hall : t = v.2 := by simp only [left] at hla; omega
        refine w_ite (fun _ => ?_) fun c => by rw [hr37.2] at c; cases c
        refine w_call (end_tri b ([], v.2)) h fun r47 w h => ?_
        obtain ⟨hr47, h⟩ := h.purP
        refine w_ite (fun _ => ?_) fun c => by rw [hr47, hall] at c; simp at c
        refine w_call (flight_tri b ([], v.2) (by simp)) h fun r48 w h => ?_
        obtain ⟨hr48, h⟩ := h.purP
        refine w_ite (fun _ => ?_) fun c => by rw [hr48] at c; cases c
        refine w_call (all_tri b) (h.le (star_emp _ |>.trans (star_comm _ _))) fun r49 w h => ?_
        obtain ⟨n, h⟩ := h.exP
        obtain ⟨hr49, h⟩ := h.purP
        rw [hr49]
        refine w_call (hall_tri (mkAll n) (blk n [.ptr (some ⟨b, 0⟩)] ^ brd b ([], v.2)) [] 3 (all_iter n b ([], v.2) (by simp)) rfl (by simp)) h fun r50 w h => ?_
        have hl50 := (h.rd (s := r50)).2
        exact Own.retP (by rw [hl50]; rfl) h.emp'
end BoardOnce

end Go.X
