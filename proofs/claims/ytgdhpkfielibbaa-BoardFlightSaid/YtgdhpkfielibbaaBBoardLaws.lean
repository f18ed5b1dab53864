/- Contracts and plain facts: BoardLaws. -/
import Derived.Test.YtgdhpkfielibbaaBPlain
import Derived.Test.YtgdhpkfielibbaaBBoard
import Derived.Test.YtgdhpkfielibbaaXw
import Derived.Test.YtgdhpkfielibbaaK
import Derived.Test.YtgdhpkfielibbaaF0
set_option linter.unusedVariables false
set_option linter.unusedSimpArgs false
namespace Go.X
open Go.Proofs
namespace BoardLaws
open Board
abbrev KO : Ks := K_i2u2su4b2
abbrev Opn := Ks.T KO
abbrev oK (o : Opn) : Int := o.1
abbrev oN (o : Opn) : Int := o.2.1
abbrev oU (o : Opn) : Int := o.2.2.1
abbrev oS (o : Opn) : Sl := o.2.2.2.2.1
abbrev oT (o : Opn) : Snt := (o.2.2.2.2.2.1, o.2.2.2.2.2.2.1, o.2.2.2.2.2.2.2.1, o.2.2.2.2.2.2.2.2.1, o.2.2.2.2.2.2.2.2.2.1)
abbrev OpR := Opn × List (Int × Int)
def opsP (d : Sl) (ps : List OpR) : SP := rarr d KO (ps.map Prod.fst) ^ rl (fun p : OpR => rarr (oS p.1) KR p.2) ps
/-- Pieces in order, from a place on, up to another. -/
def Chain : Int → List Pc → Int → Prop
  | a, [], e => a ≤ e
  | a, p :: l, e => a ≤ pFrom p ∧ pFrom p < pTo p ∧ (pSk p = true → pLo p = false) ∧ Chain (pTo p) l e
theorem Chain.le : ∀ {l : List Pc} {a b e : Int}, Chain a l e → b ≤ a → Chain b l e
  | [], _, _, _, h, hb => Int.le_trans hb h
  | p :: l, _, _, _, h, hb => ⟨Int.le_trans hb h.1, h.2⟩
theorem Chain.fin : ∀ {l : List Pc} {a e : Int}, Chain a l e → a ≤ e
  | [], _, _, h => h
  | p :: l, _, _, h => by have := Chain.fin h.2.2.2; have := h.1; have := h.2.1; omega
theorem Chain.filter (q : Pc → Bool) : ∀ {l : List Pc} {a e : Int}, Chain a l e → Chain a (l.filter q) e
  | [], _, _, h => h
  | p :: l, a, e, h => by
    have ih := Chain.filter q h.2.2.2
    rw [List.filter_cons]
    split
    · exact ⟨h.1, h.2.1, h.2.2.1, ih⟩
    · exact ih.le (by have := h.1; have := h.2.1; omega)
/-- It stands where the other one does. -/
def Like (p q : Pc) : Prop := pFrom q = pFrom p ∧ pTo q = pTo p ∧ ((pSk p = true → pLo p = false) → pSk q = true → pLo q = false)
theorem Like.self (p : Pc) : Like p p := ⟨rfl, rfl, fun h => h⟩
theorem like_refl : ∀ l : List Pc, AllP Like l l
  | [] => trivial
  | p :: l => ⟨Like.self p, like_refl l⟩
theorem Chain.like : ∀ {l m : List Pc} {a e : Int}, AllP Like l m → Chain a l e → Chain a m e
  | [], [], _, _, _, h => h
  | [], _ :: _, _, _, h, _ => h.elim
  | _ :: _, [], _, _, h, _ => h.elim
  | p :: l, q :: m, a, e, ⟨⟨h1, h2, h3⟩, hl⟩, h => ⟨by rw [h1]; exact h.1, by rw [h1, h2]; exact h.2.1, h3 h.2.2.1, by rw [h2]; exact Chain.like hl h.2.2.2⟩
theorem like_map {f : Pc → Pc} (h : ∀ p, Like p (f p)) : ∀ l : List Pc, AllP Like l (l.map f)
  | [] => trivial
  | p :: l => ⟨h p, like_map h l⟩
theorem like_pass : ∀ l : List Pc, AllP Like l (passF l).1
  | [] => trivial
  | p :: l => by
    simp only [passF]
    split
    · rename_i hh
      refine ⟨⟨rfl, rfl, fun _ hs => ?_⟩, like_pass l⟩
      have hs : pSk p = true := hs
      simp [hitF, flyP, hs] at hh
    · exact ⟨Like.self p, like_pass l⟩
theorem like_set {q : Pc} : ∀ {l : List Pc} {i : Nat} {p : Pc}, l[i]? = some p → Like p q → AllP Like l (l.set i q)
  | [], _, _, h, _ => by cases h
  | y :: l, 0, p, h, hq => by cases h; exact ⟨hq, like_refl l⟩
  | y :: l, i + 1, p, h, hq => ⟨Like.self y, like_set (by simpa using h) hq⟩
theorem Chain.push : ∀ {l : List Pc} {a e t : Int} (s : Snt), Chain a l e → e < t → Chain a (l ++ [mkPc e t s]) t
  | [], _, _, _, s, h, ht => ⟨h, ht, fun h => (by cases h), Int.le_refl _⟩
  | p :: l, _, _, _, s, h, ht => ⟨h.1, h.2.1, h.2.2.1, h.2.2.2.push s ht⟩
theorem like_lose (p : Pc) : Like p (loseP p) := by
  unfold loseP
  split
  · rename_i hh
    refine ⟨rfl, rfl, fun _ hs => ?_⟩
    have hs : pSk p = true := hs
    simp [flyP, hs] at hh
  · exact Like.self p
theorem like_mark (u : Int) (xs : List (Int × Int)) (p : Pc) : Like p (markP u xs p) := by
  unfold markP
  split
  · exact ⟨rfl, rfl, fun _ _ => rfl⟩
  · exact Like.self p
theorem like_again (p : Pc) (s : Snt) : Like p (againP p s) := ⟨rfl, rfl, fun _ _ => rfl⟩
/-- What an op does. -/
def stepF (v : List Pc × Int) (o : OpR) : List Pc × Int :=
  if oK o.1 = 1 then (if o.2.length ≤ 8 ∧ mayF v (oU o.1) o.2 = true then ((passF (restL (oU o.1) o.2 v.1)).1, v.2) else v)
  else if oK o.1 = 2 then (v.1.map loseP, v.2)
  else if oK o.1 = 3 then (againF v.1 (oT o.1), v.2)
  else (v.1 ++ [mkPc v.2 (v.2 + 1 + (IntKind.u64.wrap (oN o.1)).tmod 5000) (oT o.1)], v.2 + 1 + (IntKind.u64.wrap (oN o.1)).tmod 5000)
/-- Behind so many ops. -/
structure OkB (n : Nat) (v : List Pc × Int) : Prop where
  chain : Chain 0 v.1 v.2
  few : v.1.length ≤ n
  low : v.2 ≤ 5000 * (n : Int)
theorem okB0 : OkB 0 ([], 0) := ⟨Int.le_refl 0, Nat.le_refl 0, by simp⟩
theorem mod5 (n : Int) : 0 ≤ (IntKind.u64.wrap n).tmod 5000 ∧ (IntKind.u64.wrap n).tmod 5000 < 5000 :=
  ⟨Int.tmod_nonneg _ (wu_range n).1, Int.tmod_lt_of_pos _ (by decide)⟩
theorem again_like (l : List Pc) (s : Snt) : AllP Like l (againF l s) := by
  unfold againF
  split
  · rename_i p hp
    split
    · exact like_refl l
    · exact like_set hp (like_again p s)
  · exact like_refl l
theorem OkB.step {n : Nat} {v : List Pc × Int} (h : OkB n v) (o : OpR) : OkB (n + 1) (stepF v o) := by
  have hm := mod5 (oN o.1)
  unfold stepF
  split
  · split
    · refine ⟨?_, ?_, by have := h.low; show v.2 ≤ _; omega⟩
      · exact Chain.like (like_pass _) (Chain.like (like_map (like_mark _ _) _) (h.chain.filter _))
      · have := restL_len (oU o.1) o.2 v.1 v.1.length
        rw [List.take_length] at this
        show (passF _).1.length ≤ _
        rw [pass_len]
        have := h.few; omega
    · exact ⟨h.chain, by have := h.few; omega, by have := h.low; omega⟩
  · split
    · exact ⟨Chain.like (like_map like_lose _) h.chain, by have := h.few; show (v.1.map loseP).length ≤ _; rw [List.length_map]; omega, by have := h.low; show v.2 ≤ _; omega⟩
    · split
      · exact ⟨Chain.like (again_like _ _) h.chain, by have := AllP_len (again_like v.1 (oT o.1)); have := h.few; show (againF _ _).length ≤ _; omega, by have := h.low; show v.2 ≤ _; omega⟩
      · exact ⟨h.chain.push _ (by omega), by have := h.few; show (_ ++ [_]).length ≤ _; simp; omega, by have := h.low; show v.2 + 1 + _ ≤ _; omega⟩
theorem OkB.pos {n : Nat} {v : List Pc × Int} (h : OkB n v) : 0 ≤ v.2 := h.chain.fin
theorem sent_end {n : Nat} {v : List Pc × Int} (h : OkB n v) (hn : n ≤ 200) (m : Int) (s : Snt) : IntKind.u64.wrap (IntKind.u64.wrap (v.2 + 1) + (IntKind.u64.wrap m).tmod 5000) = v.2 + 1 + (IntKind.u64.wrap m).tmod 5000 ∧
    sentF v v.2 (v.2 + 1 + (IntKind.u64.wrap m).tmod 5000) s = (0, (v.1 ++ [mkPc v.2 (v.2 + 1 + (IntKind.u64.wrap m).tmod 5000) s], v.2 + 1 + (IntKind.u64.wrap m).tmod 5000)) := by
  have hm := mod5 m
  have := h.pos
  have := h.low
  have := h.few
  constructor
  · rw [wu (n := v.2 + 1) (by omega) (by omega), wu (by omega) (by omega)]
  · rw [sentF, if_neg (by omega), if_neg (by omega)]
theorem wu_mod (n : Int) : IntKind.u64.wrap n = n % 18446744073709551616 := by
  simp [IntKind.wrap, IntKind.bits, IntKind.signed]
theorem add_sub (n a b : Int) : IntKind.u64.wrap (IntKind.u64.wrap (n + a) - b) = IntKind.u64.wrap (n + IntKind.u64.wrap (a - b)) := by
  simp only [wu_mod]; omega
theorem Chain.at : ∀ {l : List Pc} {a e : Int} {p : Pc} {m : List Pc}, Chain a l e → l = p :: m → a ≤ pFrom p ∧ pFrom p < pTo p ∧ (pSk p = true → pLo p = false) ∧ Chain (pTo p) m e
  | _, _, _, _, _, h, rfl => h
/-- What an op does to a board, walked. -/
theorem rd_ops {ps : List OpR} {i : Nat} {o : OpR} (h : ps[i]? = some o) : Rd (oS o.1) (rl (fun p : OpR => rarr (oS p.1) KR p.2) ps) KR o.2 := rd_rl h (rd_rarr _ _ _)
theorem flightlaw_tri (d : Sl) (ps : List OpR) : Tri Try.prog N_canterlaw24_BoardFlight [.lf (.sl d)] [.lf .bool] (opsP d ps) (fun r => pur (r = true) emp) :=
  tri_0 (call_canterlaw24_BoardFlight _) fun w0 S R h => by
    unfold W_canterlaw24_BoardFlight
    have h : Own w0 S R w0 (rarr d KO (ps.map Prod.fst) ^ rl (fun p : OpR => rarr (oS p.1) KR p.2) ps) := h
    have hd := (h.rd (s := d)).2
    rw [List.length_map] at hd
    refine w_call new_tri (h.le (star_emp _ |>.trans (star_comm _ _))) fun r1 w h => ?_
    obtain ⟨b, h⟩ := h.exP
    obtain ⟨hr1, h⟩ := h.purP
    rw [hr1]
    refine w_call awake_tri (h.le (star_emp _ |>.trans (star_comm _ _))) fun r2 w h => ?_
    obtain ⟨hr2, h⟩ := h.purP
    rw [hr2]
    refine w_ite (fun c => by cases c) fun _ => ?_
    have h : Own w0 S R w (brd b ([], 0) ^ rarr d KO (ps.map Prod.fst) ^ rl (fun p : OpR => rarr (oS p.1) KR p.2) ps) := h.fin
    refine w_loop (fun (i : Int) => exq (OkB i.toNat) (fun v => brd b v ^ rarr d KO (ps.map Prod.fst) ^ rl (fun p : OpR => rarr (oS p.1) KR p.2) ps)) (fun (i : Int) => 0 ≤ i ∧ i ≤ 60) (fun (i : Int) => (60 - i).toNat) (h.inq ([], 0) okB0).keep ⟨by simp, by simp⟩ ?_
    rintro (i : Int) w ⟨h0, h1⟩ h
    obtain ⟨v, hv, h⟩ := h.outq1
    refine w_ite (fun c => ?_) fun c => Own.retP rfl h.emp'
    have hc : i < ps.length ∧ i < 60 := by simp at c; omega
    have hi : i.toNat < ps.length := by omega
    obtain ⟨o, ho⟩ : ∃ o, ps[i.toNat]? = some o := ⟨_, at_some hi⟩
    have hom : (ps.map Prod.fst)[i.toNat]? = some o.1 := by rw [List.getElem?_map, ho]; rfl
    haveI := rd_ops ho
    have hvl := hv.few
    have hve := hv.low
    have hvp := hv.pos
    refine w_idx h h0 (by rw [List.length_map]; exact hi) ?_
    refine w_ldE h d i.toNat hom rfl ?_
    refine w_new h fun n7 w h => ?_
    refine w_setAll h (by rfl) fun w h => ?_
    refine w_join h (fun _ => brd b (stepF v o) ^ rarr d KO (ps.map Prod.fst) ^ rl (fun p : OpR => rarr (oS p.1) KR p.2) ps) (fun _ => True) (fun _ w _ h => ?_) ?_
    · have hs := hv.step o
      generalize stepF v o = v at h hs
      have hsl := hs.few
      refine w_call (all_tri b) (h.le (star_emp _ |>.trans (star_comm _ _))) fun r23 w h => ?_
      obtain ⟨n, h⟩ := h.exP
      obtain ⟨hr23, h⟩ := h.purP
      rw [hr23]
      refine w_call (hall_tri (mkAll n) (blk n [.ptr (some ⟨b, 0⟩)] ^ brd b v) v.1 200 (all_iter n b v (by omega)) rfl (by omega)) h fun r24 w h => ?_
      have htk : takeN v.1 200 = v.1 := by rw [takeN, List.take_of_length_le]; omega
      rw [htk] at h
      have h : Own w0 S R w (arr r24 K_u6b3 v.1 ^ brd b v ^ rarr d KO (ps.map Prod.fst) ^ rl (fun p : OpR => rarr (oS p.1) KR p.2) ps) := h.fin
      refine w_loop (fun (_ : Int × Int × Int) => arr r24 K_u6b3 v.1 ^ brd b v ^ rarr d KO (ps.map Prod.fst) ^ rl (fun p : OpR => rarr (oS p.1) KR p.2) ps)
        (fun (y : Int × Int × Int) => (0 ≤ y.2.2 ∧ y.2.2 ≤ v.1.length) ∧ Chain y.2.1 (v.1.drop y.2.2.toNat) v.2 ∧ y.1 = flightF (v.1.take y.2.2.toNat)) (fun (y : Int × Int × Int) => v.1.length - y.2.2.toNat) h ⟨⟨by simp, by simp⟩, hs.chain, rfl⟩ ?_
      rintro (⟨m, t, j⟩ : Int × Int × Int) w ⟨⟨j0, j1⟩, j2, j3⟩ h
      dsimp only at j0 j1 j2 j3 h ⊢
      have hl24 := (h.rd (s := r24)).2
      refine w_ite (fun c => ?_) fun c => ?_
      · have hj : j.toNat < v.1.length := by simp at c; omega
        obtain ⟨p, hp⟩ : ∃ p, v.1[j.toNat]? = some p := ⟨_, at_some hj⟩
        obtain ⟨c1, c2, c3, c4⟩ := j2.at (drop_at hp)
        have hpe := c4.fin
        have e : (j + 1).toNat = j.toNat + 1 := by omega
        have hfl := flight_take hp
        have hgo : ∀ (w : World), Own w0 S R w (arr r24 K_u6b3 v.1 ^ brd b v ^ rarr d KO (ps.map Prod.fst) ^ rl (fun p : OpR => rarr (oS p.1) KR p.2) ps) → ∀ m' : Int, m' = flightF (v.1.take (j.toNat + 1)) →
            (((0 ≤ (m', pTo p, IntKind.i64.wrap (j + 1)).2.2 ∧ (m', pTo p, IntKind.i64.wrap (j + 1)).2.2 ≤ v.1.length) ∧ Chain (m', pTo p, IntKind.i64.wrap (j + 1)).2.1 (v.1.drop (m', pTo p, IntKind.i64.wrap (j + 1)).2.2.toNat) v.2 ∧ (m', pTo p, IntKind.i64.wrap (j + 1)).1 = flightF (v.1.take (m', pTo p, IntKind.i64.wrap (j + 1)).2.2.toNat)) ∧ Own w0 S R w (arr r24 K_u6b3 v.1 ^ brd b v ^ rarr d KO (ps.map Prod.fst) ^ rl (fun p : OpR => rarr (oS p.1) KR p.2) ps)) ∧ v.1.length - (m', pTo p, IntKind.i64.wrap (j + 1)).2.2.toNat < v.1.length - (m, t, j).2.2.toNat := by
          intro w h m' hm'
          dsimp only
          rw [wi (n := j + 1) (by omega) (by omega), e]
          exact ⟨⟨⟨⟨by omega, by omega⟩, c4, hm'⟩, h⟩, by omega⟩
        refine w_join h (fun _ => arr r24 K_u6b3 v.1 ^ brd b v ^ rarr d KO (ps.map Prod.fst) ^ rl (fun p : OpR => rarr (oS p.1) KR p.2) ps) (fun (y : Bool) => y = false) (fun (y : Bool) w hy h => ?_) ?_
        · refine w_ite (fun c => by rw [hy] at c; cases c) fun _ => ?_
          refine w_idx h j0 hj ?_
          refine w_ldA h r24 j.toNat 1 p hp rfl (by decide) rfl ?_
          refine w_join h (fun _ => arr r24 K_u6b3 v.1 ^ brd b v ^ rarr d KO (ps.map Prod.fst) ^ rl (fun p : OpR => rarr (oS p.1) KR p.2) ps) (fun (y : Bool) => y = flyP p) (fun (y : Bool) w hy h => ?_) ?_
          · refine w_ite (fun c => ?_) fun c => ?_
            · refine w_drw h fun w h => ?_
              refine w_idx h j0 hj (w_idx h j0 hj ?_)
              refine w_ldA h r24 j.toNat 1 p hp rfl (by decide) rfl ?_
              refine w_ldA h r24 j.toNat 0 p hp rfl (by decide) rfl ?_
              refine hgo w h _ ?_
              rw [hfl, addF, if_pos (by rw [← hy]; exact c), ← j3]
              exact add_sub m (pTo p) (pFrom p)
            · refine hgo w h _ ?_
              rw [hfl, addF, if_neg (by rw [← hy, c]; simp), ← j3]
          · refine w_idx h j0 hj ?_
            refine w_ldA h r24 j.toNat 7 p hp rfl (by decide) rfl ?_
            refine w_ite (fun c => ?_) fun c => ?_
            · refine w_idx h j0 hj ?_
              refine w_ldA h r24 j.toNat 8 p hp rfl (by decide) rfl ?_
              exact ⟨by have c : (!pSk p) = true := c; rw [flyP, c]; rfl, h⟩
            · exact ⟨by have c : (!pSk p) = false := c; rw [flyP, c]; rfl, h⟩
        · refine w_drw h fun w h => ?_
          refine w_idx h j0 hj ?_
          refine w_ldA h r24 j.toNat 0 p hp rfl (by decide) rfl ?_
          refine w_ite (fun c => ?_) fun _ => ?_
          · exfalso; have c : decide (pFrom p < t) = true := c; simp at c; omega
          refine w_idx h j0 hj (w_idx h j0 hj ?_)
          refine w_ldA h r24 j.toNat 1 p hp rfl (by decide) rfl ?_
          refine w_ldA h r24 j.toNat 0 p hp rfl (by decide) rfl ?_
          refine w_ite (fun c => ?_) fun _ => ?_
          · exfalso; have c : decide (pTo p ≤ pFrom p) = true := c; simp at c; omega
          refine w_idx h j0 hj ?_
          refine w_ldA h r24 j.toNat 7 p hp rfl (by decide) rfl ?_
          have hend : ∀ (w : World) (K : Rs.T [.lf (.int .u64)] → WP), Own w0 S R w (arr r24 K_u6b3 v.1 ^ brd b v ^ rarr d KO (ps.map Prod.fst) ^ rl (fun p : OpR => rarr (oS p.1) KR p.2) ps) → (∀ w, Own w0 S R w (arr r24 K_u6b3 v.1 ^ brd b v ^ rarr d KO (ps.map Prod.fst) ^ rl (fun p : OpR => rarr (oS p.1) KR p.2) ps) → K v.2 w) → call Try.prog N_board_Board_End [.lf (.ptr (some ⟨b, 0⟩))] [.lf (.int .u64)] K w := by
            intro w K h k
            refine w_call (end_tri b v) h fun r w h => ?_
            obtain ⟨hr, h⟩ := h.purP
            rw [hr]; exact k w h.fin
          have hno : decide (pTo p > v.2) = false := decide_eq_false (by omega)
          refine w_ite (fun c => ?_) fun c => ?_
          · refine w_idx h j0 hj ?_
            refine w_ldA h r24 j.toNat 8 p hp rfl (by decide) rfl ?_
            refine w_ite (fun c2 => ?_) fun _ => ?_
            · exfalso; have := c3 c; have c2 : pLo p = true := c2; rw [this] at c2; cases c2
            refine w_idx h j0 hj ?_
            refine w_ldA h r24 j.toNat 1 p hp rfl (by decide) rfl ?_
            refine hend w _ h fun w h => ?_
            refine w_chkA h r24 j.toNat 1 p hp rfl (by decide) rfl ?_
            exact ⟨hno, h⟩
          · refine w_idx h j0 hj ?_
            refine w_ldA h r24 j.toNat 1 p hp rfl (by decide) rfl ?_
            refine hend w _ h fun w h => ?_
            refine w_chkA h r24 j.toNat 1 p hp rfl (by decide) rfl ?_
            exact ⟨hno, h⟩
      · have hj : j.toNat = v.1.length := by simp at c; omega
        rw [hj, List.take_length] at j3
        refine w_call (flight_tri b v (by omega)) h fun r57 w h => ?_
        obtain ⟨hr57, h⟩ := h.purP
        refine w_ite (fun c => by rw [hr57, j3] at c; simp at c) fun _ => ?_
        rw [wi (n := i + 1) (by omega) (by omega)]
        have e : (i + 1).toNat = i.toNat + 1 := by omega
        have h : Own w0 S R w (brd b v ^ rarr d KO (ps.map Prod.fst) ^ rl (fun p : OpR => rarr (oS p.1) KR p.2) ps) := h.fin
        refine ⟨⟨⟨by show 0 ≤ i + 1; omega, by show i + 1 ≤ 60; omega⟩, ?_⟩, by show (60 - (i + 1)).toNat < _; omega⟩
        show Own w0 S R w (exq (OkB (i + 1).toNat) _)
        rw [e]
        exact (h.inq v hs).keep
    · refine w_ld h rfl ?_
      refine w_ite (fun c => ?_) fun c => ?_
      · have k1 : oK o.1 = 1 := by simpa using c
        have hstep : stepF v o = if o.2.length ≤ 8 ∧ mayF v (oU o.1) o.2 = true then ((passF (restL (oU o.1) o.2 v.1)).1, v.2) else v := by rw [stepF, if_pos k1]
        refine w_ld h rfl ?_
        have hsl : o.1.2.2.2.2.1.len = o.2.length := (h.rd (s := oS o.1)).2
        refine w_ite (fun c => ?_) fun c => ?_
        · have h8 : o.2.length ≤ 8 := by simp at c; omega
          refine w_ld h rfl (w_ld h rfl ?_)
          by_cases hm : mayF v (oU o.1) o.2 = true
          · rw [if_pos ⟨h8, hm⟩] at hstep
            refine w_callL (A := brd b v) (Q := rarr (oS o.1) KR o.2) (ack_tri b v (oU o.1) (oS o.1) o.2 (by omega) (by omega) hm) h fun r w h => ?_
            obtain ⟨_, h⟩ := h.purP
            exact ⟨trivial, by rw [hstep]; exact h.fin⟩
          · rw [if_neg (fun hh => hm hh.2)] at hstep
            refine w_callL (A := brd b v) (Q := rarr (oS o.1) KR o.2) (ack_no_tri b v (oU o.1) (oS o.1) o.2 (by omega) (by simpa using hm)) h fun r w h => ?_
            obtain ⟨_, h⟩ := h.purP
            exact ⟨trivial, by rw [hstep]; exact h.fin⟩
        · have h8 : ¬ o.2.length ≤ 8 := by simp at c; omega
          rw [if_neg (fun hh => h8 hh.1)] at hstep
          exact ⟨trivial, by rw [hstep]; exact h.fin⟩
      · have k1 : ¬ oK o.1 = 1 := by simpa using c
        refine w_ite (fun c => ?_) fun c => ?_
        · have k2 : oK o.1 = 2 := by simpa using c
          refine w_call (lose_tri b v (by omega)) h fun r w h => ?_
          obtain ⟨_, h⟩ := h.purP
          exact ⟨trivial, by rw [stepF, if_neg k1, if_pos k2]; exact h.fin⟩
        · have k2 : ¬ oK o.1 = 2 := by simpa using c
          refine w_ite (fun c => ?_) fun c => ?_
          · have k3 : oK o.1 = 3 := by simpa using c
            refine w_ld h rfl ?_
            refine w_call (Again_tri b (oT o.1) v (by omega)) h fun r w h => ?_
            obtain ⟨_, h⟩ := h.purP
            exact ⟨trivial, by rw [stepF, if_neg k1, if_neg k2, if_pos k3]; exact h.fin⟩
          · have k3 : ¬ oK o.1 = 3 := by simpa using c
            refine w_drw h fun w h => ?_
            refine w_ld h rfl (w_ld h rfl ?_)
            refine w_call (end_tri b v) h fun r w h => ?_
            obtain ⟨hr20, h⟩ := h.purP
            refine w_chk h rfl (w_chk h rfl ?_)
            refine w_call (end_tri b v) h fun r w h => ?_
            obtain ⟨hr21, h⟩ := h.purP
            refine w_chk h rfl (w_chk h rfl ?_)
            rw [hr20, hr21]
            obtain ⟨e1, e2⟩ := sent_end hv (by omega) (oN o.1) (oT o.1)
            have e1' : IntKind.u64.wrap (IntKind.u64.wrap (v.2 + 1) + (IntKind.u64.wrap o.1.2.1).tmod 5000) = v.2 + 1 + (IntKind.u64.wrap (oN o.1)).tmod 5000 := e1
            rw [e1']
            refine w_call (sent_tri b v.2 _ (oT o.1) v) h fun r w h => ?_
            rw [e2] at h
            obtain ⟨_, h⟩ := h.purP
            exact ⟨trivial, by rw [stepF, if_neg k1, if_neg k2, if_neg k3]; exact h.fin⟩
end BoardLaws

end Go.X
