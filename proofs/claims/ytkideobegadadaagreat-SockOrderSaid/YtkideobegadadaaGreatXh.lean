/- The reading of Xb is sound, sixth part: slices. -/
import Derived.Test.YtkideobegadadaaGreatXg
namespace Go.X
variable {P : Program}

theorem rep_range {z : List Value} {m : Nat} (hm : z.length = m) (h0 : 0 < m) : ∀ n, (List.range (n * m)).map (fun i => z.toArray[i % m]!) = (List.replicate n z).flatten
  | 0 => by simp
  | n + 1 => by
    have e : (n + 1) * m = m + n * m := by rw [Nat.add_mul, Nat.one_mul, Nat.add_comm]
    rw [e, List.range_add, List.map_append, List.map_map]
    have h1 : (List.range m).map (fun i => z.toArray[i % m]!) = z := by
      apply List.ext_getElem (by simp [hm])
      intro i h1 h2
      simp only [List.getElem_map, List.getElem_range]
      have hi : i < m := by simpa using h1
      rw [Nat.mod_eq_of_lt hi]
      simp [hm, hi]
    have h2 : (fun i => z.toArray[i % m]!) ∘ (fun x => m + x) = fun i => z.toArray[i % m]! := by
      funext i; simp
    rw [h1, h2, rep_range hm h0 n]
    simp [List.replicate_succ]
theorem rep_map (n : Nat) (z : List Lf) : (rep n z).map Lf.enc = (List.replicate n (z.map Lf.enc)).flatten := by
  unfold rep
  rw [List.map_flatten, List.map_replicate]
theorem rep_length (n : Nat) (z : List Lf) : (rep n z).length = n * z.length := by
  unfold rep; simp
theorem zeroCells_eq {z : List Lf} {m : Nat} (hm : z.length = m) (h0 : 0 < m) (n : Nat) : (Array.range (n * m)).map (fun i => ((z.map Lf.enc).toArray)[i % m]!) = ((rep n z).map Lf.enc).toArray := by
  rw [rep_map, ← rep_range (z := z.map Lf.enc) (m := m) (by simpa using hm) h0 n]
  rw [arr_map]
  simp
theorem zeroCells_eq' {z : List Lf} {m : Nat} (hm : z.length = m) (h0 : 0 < m) (n : Nat) : Builtin.zeroCells (z.map Lf.enc).toArray n = ((rep n z).map Lf.enc).toArray := by
  unfold Builtin.zeroCells
  simp only [List.size_toArray, List.length_map, hm]
  exact zeroCells_eq hm h0 n
theorem growBy_le (n : Nat) : ∀ r c, Builtin.growBy n r c ≤ 2 ^ r * (c + 768)
  | 0, c => by simp [Builtin.growBy]
  | r + 1, c => by
    simp only [Builtin.growBy]
    split
    · have : 1 ≤ 2 ^ (r + 1) := Nat.one_le_two_pow
      calc c ≤ 1 * (c + 768) := by omega
        _ ≤ 2 ^ (r + 1) * (c + 768) := Nat.mul_le_mul_right _ this
    · have := growBy_le n r (c + (c + 768) / 4)
      have h2 : c + (c + 768) / 4 + 768 ≤ 2 * (c + 768) := by omega
      calc Builtin.growBy n r (c + (c + 768) / 4) ≤ 2 ^ r * (c + (c + 768) / 4 + 768) := this
        _ ≤ 2 ^ r * (2 * (c + 768)) := Nat.mul_le_mul_left _ h2
        _ = 2 ^ (r + 1) * (c + 768) := by rw [Nat.pow_succ, Nat.mul_assoc]
theorem nextcap_le {need cap : Nat} (h : cap < need) (hn : need ≤ 4294967296) : Builtin.nextslicecap need cap ≤ 68719493120 := by
  have hc : cap ≤ 4294967296 := by omega
  have hg : Builtin.growBy need 4 cap ≤ 68719493120 :=
    Nat.le_trans (growBy_le need 4 cap) (Nat.le_trans (Nat.mul_le_mul_left (2 ^ 4) (Nat.add_le_add_right hc 768)) (by decide))
  unfold Builtin.nextslicecap
  split
  · exact Nat.le_trans hn (by decide)
  · split
    · exact Nat.le_trans (Nat.mul_le_mul_left 2 hc) (by decide)
    · exact hg
theorem firstCells_rd {w : World} {s : Sl} {sz : Nat} {M : List Lf} (h : SlRd w s sz M) : (Builtin.firstCells sz s.len (Lf.sl s).enc).run P w = .ok (M.map Lf.enc).toArray w := by
  obtain ⟨hl, hn, hr⟩ := h
  simp only [Lf.enc]
  cases hp : s.p with
  | none =>
    have : M = [] := by
      rw [hn hp] at hl
      simp at hl; exact hl
    obtain ⟨a, c, hx, _⟩ := s.enc_len
    rw [hx, hn hp]
    cases a with
    | none => simp [Builtin.firstCells, this]
    | some a => simp [Builtin.firstCells, this]; rfl
  | some q =>
    rw [Sl.enc_p hp]
    simp only [Builtin.firstCells, ← hl]
    exact load_run (hr q hp)
theorem SlOwn.rd {w : World} {s : Sl} {sz : Nat} {L : List Lf} (h : SlOwn w s sz L) (hz : s.p = none → s.len = 0) : SlRd w s sz L := by
  rcases h with ⟨h1, h2, rfl⟩ | ⟨q, C, hp, hb, hle, hc, hC, hL, hi⟩
  · exact ⟨by simp [h1], fun _ => h1, fun q _ => trivial⟩
  · refine ⟨hL, hz, fun q' hq => ?_⟩
    rw [hp] at hq; cases hq
    exact hb.reads L q.o hi
theorem SlOwn.nil_len {w : World} {s : Sl} {sz : Nat} {L : List Lf} (h : SlOwn w s sz L) : s.p = none → s.len = 0 := by
  intro hp
  rcases h with ⟨h1, _, _⟩ | ⟨q, C, hq, _⟩
  · exact h1
  · rw [hp] at hq; cases hq
theorem SlOwn.norm {w : World} {s : Sl} {sz : Nat} {L : List Lf} (h : SlOwn w s sz L) : s.enc = .slice (s.p.map Pt.addr) s.len s.cap := by
  rcases h with ⟨_, h2, _⟩ | ⟨q, C, hp, _⟩
  · exact Sl.enc_n (Sl.norm_c h2)
  · exact Sl.enc_n (Sl.norm_p hp)
theorem SlOwn.read {w : World} {s : Sl} {sz : Nat} {L : List Lf} (h : SlOwn w s sz L) : SlRd w s sz L := h.rd h.nil_len
theorem splice_get {C M : List Lf} {o : Nat} (h : o + M.length ≤ C.length) (i : Nat) : (splice C o M)[i]? = if i < o then C[i]? else if i < o + M.length then M[i - o]? else C[i]? := by
  unfold splice
  rw [List.append_assoc, List.getElem?_append]
  simp only [List.length_take]
  rw [show min o C.length = o by omega]
  split
  · rename_i h1; rw [List.getElem?_take, if_pos h1]
  · rename_i h1
    rw [List.getElem?_append]
    split
    · rename_i h2; rw [if_pos (by omega)]
    · rename_i h2
      rw [if_neg (by omega), List.getElem?_drop]
      congr 1; omega
theorem append_run {w : World} {s x : Sl} {sz : Nat} {L M : List Lf} {ts : Array TypeId} {t ty el : TypeId} {ty2 el2 : TypeId} {z : List Lf} (h0 : ts[0]? = some ty) (h1 : ts[1]? = some ty2)
    (hu : P.underlying ty = some (.slice el)) (hu2 : P.underlying ty2 = some (.slice el2)) (hz : zeroLs P el = some z) (hzl : z.length = sz) (hsz : P.cellsOf el = sz) (hpos : 0 < sz) (hby : P.bytesOf el ≤ 2048) (hby0 : P.bytesOf el ≠ 0)
    (hs : SlOwn w s sz L) (hx : SlRd w x sz M) (hlen : s.len + x.len ≤ 4294967296) :
    ∃ w' s', (Builtin.append_ ts t #[(Lf.sl s).enc, (Lf.sl x).enc]).run P w = .ok (Lf.sl s').enc w' ∧ Ext s.own w w' ∧ SlOwn w' s' sz (L ++ M) ∧ s'.len = s.len + x.len ∧ (∀ k, s'.own k → s.own k ∨ w.heap.size ≤ k) ∧
      (s.cap < s.len + x.len → Ext no1 w w' ∧ ∀ k, s'.own k → w.heap.size ≤ k) ∧ (s.len + x.len ≤ s.cap → s' = ⟨s.p, s.len + x.len, s.cap⟩ ∧ w'.heap.size = w.heap.size) := by
  have hi : (P.info? el).isSome = true := by
    unfold Program.cellsOf at hsz
    cases hh : P.info? el with
    | none => rw [hh] at hsz; simp at hsz; omega
    | some i => rfl
  obtain ⟨i, hi⟩ := Option.isSome_iff_exists.1 hi
  have hbi : i.bytes = P.bytesOf el := by simp [Program.bytesOf, hi]
  obtain ⟨ax, cx, hxe, _⟩ := x.enc_len
  have hse := hs.norm
  have hxr := firstCells_rd (P := P) hx
  have hsr := firstCells_rd (P := P) hs.read
  have hsize := cells_info (P := P) (t := el) (by omega) 
  by_cases hneed : s.len + x.len ≤ s.cap
  · -- in place
    have hplace : ∃ w', ((Option.map Pt.addr s.p).elim (pure () : Sem Unit) (fun a => storeCells (a.add (s.len * sz)) (M.map Lf.enc))).run P w = .ok () w' ∧ Ext s.own w w' ∧ SlOwn w' ⟨s.p, s.len + x.len, s.cap⟩ sz (L ++ M) ∧ w'.heap.size = w.heap.size := by
      rcases hs with ⟨e1, e2, rfl⟩ | ⟨q, C, hp, hb, hle, hc, hC, hL, hgi⟩
      · have e3 : x.len = 0 := by omega
        have : M = [] := by
          have := hx.1
          rw [e3] at this
          simp at this; exact this
        subst this
        refine ⟨w, ?_, Ext.refl _ _, .inl ⟨by simp; omega, e2, rfl⟩, rfl⟩
        cases s.p <;> simp [storeCells]
      · have hlm : M.length = x.len * sz := hx.1
        have hbound : q.o + s.len * sz + M.length ≤ C.length := by
          have : (s.len + x.len) * sz ≤ s.cap * sz := Nat.mul_le_mul_right _ hneed
          rw [Nat.add_mul] at this
          omega
        obtain ⟨w', r1, r2, r3, r4⟩ := setCells_run (P := P) M C (q.o + s.len * sz) 0 hb (by simpa using hbound)
        refine ⟨w', ?_, r2.mono (fun k _ hk => ⟨q, hp, hk, hc⟩), .inr ⟨q, _, hp, r3, hneed, hc, ?_, ?_, ?_⟩, r4⟩
        · simp only [hp, Option.map_some, Option.elim_some, add_eq]
          exact r1
        · rw [Nat.add_zero, splice_length hbound]; exact hC
        · simp only [List.length_append, hL, hlm, Nat.add_mul]
        · intro j hj
          simp only [List.length_append] at hj
          rw [Nat.add_zero, splice_get hbound, List.getElem?_append]
          by_cases hjl : j < L.length
          · rw [if_pos (by omega), if_pos hjl]; exact hgi j hjl
          · rw [if_neg (by omega), if_pos (by omega), if_neg hjl]
            congr 1; omega
    obtain ⟨w', r1, r2, r3, r4⟩ := hplace
    refine ⟨w', ⟨s.p, s.len + x.len, s.cap⟩, ?_, r2, r3, rfl, fun k ⟨q, h1, h2, h3⟩ => .inl ⟨q, h1, h2, h3⟩, fun h => by omega, fun _ => ⟨rfl, r4⟩⟩
    have hst : (Builtin.append_ ts t #[(Lf.sl s).enc, (Lf.sl x).enc]).run P w = (((Option.map Pt.addr s.p).elim (pure () : Sem Unit) (fun a => storeCells (a.add (s.len * sz)) (M.map Lf.enc))).run P w).andThen fun _ w' => .ok (.slice (Option.map Pt.addr s.p) (s.len + x.len) s.cap) w' := by
      simp only [Lf.enc, hse, hxe] at hxr ⊢
      simp only [Builtin.append_, h0, h1, Sem.run_bind, run_underlying hu, run_underlying hu2, hsize, Result.andThen_ok, List.getElem?_toArray, List.getElem?_cons_zero, List.getElem?_cons_succ, Sem.run_pure, Builtin.lenOf,
        Bool.false_eq_true, if_false, Sem.run_ite, Bool.not_false, if_true, hneed, hsz, hxr]
      cases s.p <;> simp
    rw [hst, r1]
    show Result.ok _ _ = Result.ok (Sl.enc _) _
    rw [r3.norm]
  · -- a new array
    have hlt : s.cap < s.len + x.len := by omega
    have h63 : ¬ (((s.len + x.len : Nat) : Int) > IntKind.i64.max ∧ (false = true ∨ i.bytes = 0)) := fun hh => by
      rcases hh.2 with h | h
      · cases h
      · exact hby0 (by rw [← hbi]; exact h)
    have h48 : ¬ (Builtin.nextslicecap (s.len + x.len) s.cap * i.bytes > 2 ^ 48) := by
      have h1 := nextcap_le hlt hlen
      have h2 : i.bytes ≤ 2048 := by omega
      have h3 : Builtin.nextslicecap (s.len + x.len) s.cap * i.bytes ≤ 68719493120 * 2048 := Nat.mul_le_mul h1 h2
      have h4 : (68719493120 * 2048 : Nat) ≤ 2 ^ 48 := by decide
      omega
    obtain ⟨nc, hnc, hge⟩ : ∃ nc, (Question.appendCap (s.len + x.len) s.cap el).cut (w.tape w.drawn (.appendCap (s.len + x.len) s.cap el)) = nc ∧ s.len + x.len ≤ nc := ⟨_, rfl, by simp [Question.cut]⟩
    obtain ⟨w1, hw1⟩ : ∃ w1 : World, w1 = { w with drawn := w.drawn + 1 } := ⟨_, rfl⟩
    have hheap : w1.heap = w.heap := by rw [hw1]
    have ext1 : Ext no1 w w1 := by rw [hw1]; exact ⟨rfl, rfl, rfl, Nat.le_refl _, fun _ _ _ => rfl, fun _ h => h⟩
    have hx1 : SlRd w1 x sz M := ⟨hx.1, hx.2.1, fun q hq => by
      have := hx.2.2 q hq
      clear hxr
      generalize q.o = o at this ⊢
      clear hx
      induction M generalizing o with
      | nil => trivial
      | cons m M ih => exact ⟨by rw [← this.1]; simp [World.cell?, hheap], ih _ this.2⟩⟩
    have hs1 : SlOwn w1 s sz L := by
      rcases hs with h | ⟨q, C, a, ⟨T, hb⟩, r⟩
      · exact .inl h
      · exact .inr ⟨q, C, a, ⟨T, by rw [hheap]; exact hb⟩, r⟩
    have hxr1 := firstCells_rd (P := P) hx1
    have hsr1 := firstCells_rd (P := P) hs1.read
    obtain ⟨zv, hzv, hzc⟩ := zero_run hz w1
    obtain ⟨cells, hcells⟩ : ∃ cells, cells = L ++ M ++ rep (nc - (s.len + x.len)) z := ⟨_, rfl⟩
    refine ⟨{ w1 with heap := w1.heap.push (.cells (cells.map Lf.enc).toArray el) }, ⟨some ⟨w1.heap.size, 0⟩, s.len + x.len, nc⟩, ?_, ext1.trans' (ext_alloc w1 _) (fun k _ h => h.elim) |>.mono (fun k _ h => h.elim), .inr ⟨⟨w1.heap.size, 0⟩, cells, rfl, blk_alloc w1 cells el, hge, ?_, ?_, ?_, ?_⟩, rfl, ?_, fun _ => ⟨ext1.trans (ext_alloc w1 _), ?_⟩, fun h => by omega⟩
    · simp only [Lf.enc, hse, hxe] at hxr1 hsr1 ⊢
      simp only [Builtin.append_, h0, h1, Sem.run_bind, run_underlying hu, run_underlying hu2, hsize, Result.andThen_ok, List.getElem?_toArray, List.getElem?_cons_zero, List.getElem?_cons_succ, Sem.run_pure, Builtin.lenOf,
        Bool.false_eq_true, if_false, Sem.run_ite, Bool.not_false, if_true, hneed]
      simp only [typeInfo, Sem.run_bind, run_program, hi, Result.andThen_ok, Sem.run_pure, false_or]
      simp only [Bool.false_eq_true, false_or] at h63
      rw [if_neg h63, if_neg h48]
      simp only [Sem.run_bind, run_choose, Question.forced, Bool.false_eq_true, if_false, Result.andThen_ok, hnc, ← hw1, run_askRoom, hsr1, hxr1, hsz, hzv, hzc, newRow, run_newObj, Sem.run_pure]
      rw [zeroCells_eq' hzl hpos, Sl.enc_p (s := ⟨some ⟨w1.heap.size, 0⟩, _, _⟩) rfl]
      simp [hcells]
    · show nc ≠ 0
      omega
    · simp only [hcells, List.length_append, rep_length, hs.read.1, hx.1, hzl, Nat.zero_add]
      have : nc * sz = s.len * sz + x.len * sz + (nc - (s.len + x.len)) * sz := by
        rw [← Nat.add_mul, ← Nat.add_mul]
        congr 1; omega
      omega
    · simp only [List.length_append, hs.read.1, hx.1, Nat.add_mul]
    · intro j hj
      rw [Nat.zero_add, hcells, List.getElem?_append, if_pos hj]
    · rintro k ⟨q, h1, h2, _⟩
      cases h1
      exact .inr (by rw [h2, hheap]; exact Nat.le_refl _)
    · rintro k ⟨q, h1, h2, _⟩
      cases h1
      rw [h2, hheap]; exact Nat.le_refl _
set_option linter.unusedSimpArgs false in
set_option linter.unusedVariables false in
theorem appendz_run {w : World} {s : Sl} {kx : IntKind} {nx : Int} {sz : Nat} {L : List Lf} {ts : Array TypeId} {t ty el : TypeId} {ty2 : TypeId} {k2 : IntKind} {z : List Lf} (h0 : ts[0]? = some ty) (h1 : ts[1]? = some ty2)
    (hu : P.underlying ty = some (.slice el)) (hu2 : P.underlying ty2 = some (.int k2)) (hz : zeroLs P el = some z) (hzl : z.length = sz) (hsz : P.cellsOf el = sz) (hpos : 0 < sz) (hby : P.bytesOf el ≤ 2048) (hby0 : P.bytesOf el ≠ 0)
    (hs : SlOwn w s sz L) (hx0 : 0 ≤ nx) (hlen0 : (s.len : Int) + nx ≤ 4294967296) :
    ∃ w' s', (Builtin.append_ ts t #[(Lf.sl s).enc, Value.int kx nx]).run P w = .ok (Lf.sl s').enc w' ∧ Ext s.own w w' ∧ SlOwn w' s' sz (L ++ rep nx.toNat z) ∧ s'.len = s.len + nx.toNat ∧ (∀ k, s'.own k → s.own k ∨ w.heap.size ≤ k) ∧
      (s.cap < s.len + nx.toNat → Ext no1 w w' ∧ ∀ k, s'.own k → w.heap.size ≤ k) ∧ (s.len + nx.toNat ≤ s.cap → s' = ⟨s.p, s.len + nx.toNat, s.cap⟩ ∧ w'.heap.size = w.heap.size) := by
  obtain ⟨xl, hxl⟩ : ∃ xl, xl = nx.toNat := ⟨_, rfl⟩
  obtain ⟨M, hM⟩ : ∃ M, M = rep xl z := ⟨_, rfl⟩
  have hMl : M.length = xl * sz := by rw [hM, rep_length, hzl]
  have hlen : s.len + xl ≤ 4294967296 := by omega
  rw [← hxl, ← hM]
  have hw1' : IntKind.i64.wrap nx = nx := by simp [IntKind.wrap, IntKind.bits, IntKind.signed]; omega
  have hi : (P.info? el).isSome = true := by
    unfold Program.cellsOf at hsz
    cases hh : P.info? el with
    | none => rw [hh] at hsz; simp at hsz; omega
    | some i => rfl
  obtain ⟨i, hi⟩ := Option.isSome_iff_exists.1 hi
  have hbi : i.bytes = P.bytesOf el := by simp [Program.bytesOf, hi]
  have hsr := firstCells_rd (P := P) hs.read
  have hsize := cells_info (P := P) (t := el) (by omega) 
  have hbig : ¬ nx * (i.bytes : Int) > 2 ^ 48 := by
    have h1 : (i.bytes : Int) ≤ 2048 := by omega
    have h2 : nx * (i.bytes : Int) ≤ 4294967296 * 2048 := Int.mul_le_mul (by omega) h1 (by omega) (by omega)
    have h3 : (4294967296 * 2048 : Int) ≤ 2 ^ 48 := by decide
    omega
  obtain ⟨zv0, hzv0, hzc0⟩ := zero_run hz w
  by_cases hneed : s.len + xl ≤ s.cap
  · -- in place
    have hplace : ∃ w', ((Option.map Pt.addr s.p).elim (pure () : Sem Unit) (fun a => storeCells (a.add (s.len * sz)) (M.map Lf.enc))).run P w = .ok () w' ∧ Ext s.own w w' ∧ SlOwn w' ⟨s.p, s.len + xl, s.cap⟩ sz (L ++ M) ∧ w'.heap.size = w.heap.size := by
      rcases hs with ⟨e1, e2, rfl⟩ | ⟨q, C, hp, hb, hle, hc, hC, hL, hgi⟩
      · have e3 : xl = 0 := by omega
        have : M = [] := by
          have := hMl
          rw [e3] at this
          simp at this; exact this
        subst this
        refine ⟨w, ?_, Ext.refl _ _, .inl ⟨by simp; omega, e2, rfl⟩, rfl⟩
        cases s.p <;> simp [storeCells]
      · have hlm : M.length = xl * sz := hMl
        have hbound : q.o + s.len * sz + M.length ≤ C.length := by
          have : (s.len + xl) * sz ≤ s.cap * sz := Nat.mul_le_mul_right _ hneed
          rw [Nat.add_mul] at this
          omega
        obtain ⟨w', r1, r2, r3, r4⟩ := setCells_run (P := P) M C (q.o + s.len * sz) 0 hb (by simpa using hbound)
        refine ⟨w', ?_, r2.mono (fun k _ hk => ⟨q, hp, hk, hc⟩), .inr ⟨q, _, hp, r3, hneed, hc, ?_, ?_, ?_⟩, r4⟩
        · simp only [hp, Option.map_some, Option.elim_some, add_eq]
          exact r1
        · rw [Nat.add_zero, splice_length hbound]; exact hC
        · simp only [List.length_append, hL, hlm, Nat.add_mul]
        · intro j hj
          simp only [List.length_append] at hj
          rw [Nat.add_zero, splice_get hbound, List.getElem?_append]
          by_cases hjl : j < L.length
          · rw [if_pos (by omega), if_pos hjl]; exact hgi j hjl
          · rw [if_neg (by omega), if_pos (by omega), if_neg hjl]
            congr 1; omega
    obtain ⟨w', r1, r2, r3, r4⟩ := hplace
    refine ⟨w', ⟨s.p, s.len + xl, s.cap⟩, ?_, r2, r3, rfl, fun k ⟨q, h1, h2, h3⟩ => .inl ⟨q, h1, h2, h3⟩, fun h => by omega, fun _ => ⟨rfl, r4⟩⟩
    have hst : (Builtin.append_ ts t #[(Lf.sl s).enc, Value.int kx nx]).run P w = (((Option.map Pt.addr s.p).elim (pure () : Sem Unit) (fun a => storeCells (a.add (s.len * sz)) (M.map Lf.enc))).run P w).andThen fun _ w' => .ok (.slice (Option.map Pt.addr s.p) (s.len + xl) s.cap) w' := by
      simp only [Lf.enc, hs.norm]
      simp only [Builtin.append_, h0, h1, Sem.run_bind, run_underlying hu, run_underlying hu2, hsize, Result.andThen_ok, List.getElem?_toArray, List.getElem?_cons_zero, List.getElem?_cons_succ, Sem.run_pure, if_true, asInt, asIntOf, hw1', Sem.run_ite,
        if_neg (show ¬ nx < 0 by omega), typeInfo, run_program, hi, if_neg hbig, ← hxl, Bool.not_true, Bool.false_eq_true, if_false, hneed, hsz]
      by_cases h00 : xl * sz = 0
      · have hM0 : M = [] := List.eq_nil_of_length_eq_zero (by rw [hMl]; exact h00)
        simp only [if_pos h00, Sem.run_pure, Result.andThen_ok, hM0]
        cases s.p <;> simp
      · simp only [if_neg h00, Sem.run_bind, hzv0, hzc0, Result.andThen_ok, Sem.run_pure]
        rw [zeroCells_eq' hzl hpos, ← hM]
        cases s.p <;> simp
    rw [hst, r1]
    show Result.ok _ _ = Result.ok (Sl.enc _) _
    rw [r3.norm]
  · -- a new array
    have hlt : s.cap < s.len + xl := by omega
    have h48 : ¬ (Builtin.nextslicecap (s.len + xl) s.cap * i.bytes > 2 ^ 48) := by
      have h1 := nextcap_le hlt hlen
      have h2 : i.bytes ≤ 2048 := by omega
      have h3 : Builtin.nextslicecap (s.len + xl) s.cap * i.bytes ≤ 68719493120 * 2048 := Nat.mul_le_mul h1 h2
      have h4 : (68719493120 * 2048 : Nat) ≤ 2 ^ 48 := by decide
      omega
    obtain ⟨nc, hnc, hge⟩ : ∃ nc, (Question.appendCap (s.len + xl) s.cap el).cut (w.tape w.drawn (.appendCap (s.len + xl) s.cap el)) = nc ∧ s.len + xl ≤ nc := ⟨_, rfl, by simp [Question.cut]⟩
    obtain ⟨w1, hw1⟩ : ∃ w1 : World, w1 = { w with drawn := w.drawn + 1 } := ⟨_, rfl⟩
    have hheap : w1.heap = w.heap := by rw [hw1]
    have ext1 : Ext no1 w w1 := by rw [hw1]; exact ⟨rfl, rfl, rfl, Nat.le_refl _, fun _ _ _ => rfl, fun _ h => h⟩
    have hs1 : SlOwn w1 s sz L := by
      rcases hs with h | ⟨q, C, a, ⟨T, hb⟩, r⟩
      · exact .inl h
      · exact .inr ⟨q, C, a, ⟨T, by rw [hheap]; exact hb⟩, r⟩
    have hsr1 := firstCells_rd (P := P) hs1.read
    obtain ⟨zv, hzv, hzc⟩ := zero_run hz w1
    obtain ⟨cells, hcells⟩ : ∃ cells, cells = L ++ M ++ rep (nc - (s.len + xl)) z := ⟨_, rfl⟩
    refine ⟨{ w1 with heap := w1.heap.push (.cells (cells.map Lf.enc).toArray el) }, ⟨some ⟨w1.heap.size, 0⟩, s.len + xl, nc⟩, ?_, ext1.trans' (ext_alloc w1 _) (fun k _ h => h.elim) |>.mono (fun k _ h => h.elim), .inr ⟨⟨w1.heap.size, 0⟩, cells, rfl, blk_alloc w1 cells el, hge, ?_, ?_, ?_, ?_⟩, rfl, ?_, fun _ => ⟨ext1.trans (ext_alloc w1 _), ?_⟩, fun h => by omega⟩
    · simp only [Lf.enc, hs.norm] at hsr1 ⊢
      have h63 : ¬ (((s.len + xl : Nat) : Int) > IntKind.i64.max) := by
        have : IntKind.i64.max = 9223372036854775807 := rfl
        rw [this]; omega
      simp only [Builtin.append_, h0, h1, Sem.run_bind, run_underlying hu, run_underlying hu2, hsize, Result.andThen_ok, List.getElem?_toArray, List.getElem?_cons_zero, List.getElem?_cons_succ, Sem.run_pure, if_true, asInt, asIntOf, hw1', Sem.run_ite,
        if_neg (show ¬ nx < 0 by omega), typeInfo, run_program, hi, if_neg hbig, ← hxl, Bool.not_true, Bool.false_eq_true, if_false, hneed, true_or, and_true, if_neg h63, if_neg h48]
      simp only [Sem.run_bind, run_choose, Question.forced, Bool.false_eq_true, if_false, Result.andThen_ok, hnc, ← hw1, run_askRoom, hsr1, hsz, newRow, run_newObj, Sem.run_pure, Sem.run_ite]
      by_cases h00 : xl * sz = 0
      · have hM0 : M = [] := List.eq_nil_of_length_eq_zero (by rw [hMl]; exact h00)
        simp only [if_pos h00, Sem.run_pure, Result.andThen_ok, hzv, hzc]
        rw [zeroCells_eq' hzl hpos, Sl.enc_p (s := ⟨some ⟨w1.heap.size, 0⟩, _, _⟩) rfl]
        simp [hcells, hM0]
      · simp only [if_neg h00, Sem.run_bind, hzv, hzc, Result.andThen_ok, Sem.run_pure]
        rw [zeroCells_eq' hzl hpos, zeroCells_eq' hzl hpos, ← hM, Sl.enc_p (s := ⟨some ⟨w1.heap.size, 0⟩, _, _⟩) rfl]
        simp [hcells]
    · show nc ≠ 0
      omega
    · simp only [hcells, List.length_append, rep_length, hs.read.1, hMl, hzl, Nat.zero_add]
      have : nc * sz = s.len * sz + xl * sz + (nc - (s.len + xl)) * sz := by
        rw [← Nat.add_mul, ← Nat.add_mul]
        congr 1; omega
      omega
    · simp only [List.length_append, hs.read.1, hMl, Nat.add_mul]
    · intro j hj
      rw [Nat.zero_add, hcells, List.getElem?_append, if_pos hj]
    · rintro k ⟨q, h1, h2, _⟩
      cases h1
      exact .inr (by rw [h2, hheap]; exact Nat.le_refl _)
    · rintro k ⟨q, h1, h2, _⟩
      cases h1
      rw [h2, hheap]; exact Nat.le_refl _
end Go.X
