/- The reading of Xb is sound, seventh part: each operation, together. -/
import Derived.Test.YtkideobegadadaaGreatXh
set_option linter.unusedSimpArgs false
namespace Go.X
variable {P : Program}

theorem makeSlice_run {w : World} {t el : TypeId} {z : List Lf} {n m : Int} {k1 k2 : IntKind} (hu : P.underlying t = some (.slice el)) (hz : zeroLs P el = some z) (hzl : z.length = P.cellsOf el) (hpos : P.cellsOf el ≠ 0) (hby : P.bytesOf el ≤ 4096)
    (h : 0 ≤ n ∧ n ≤ m ∧ m ≤ 4294967296) :
    (Instr.makeSlice t (.int k1 n) (.int k2 m)).run P w = .ok (Lf.sl ⟨some ⟨w.heap.size, 0⟩, n.toNat, m.toNat⟩).enc { w with heap := w.heap.push (.cells ((rep m.toNat z).map Lf.enc).toArray el) } := by
  have e1 : IntKind.i64.wrap n = n := by simp [IntKind.wrap, IntKind.bits, IntKind.signed]; omega
  have e2 : IntKind.i64.wrap m = m := by simp [IntKind.wrap, IntKind.bits, IntKind.signed]; omega
  obtain ⟨i, hi⟩ : ∃ i, P.info? el = some i := by
    unfold Program.cellsOf at hpos
    cases hh : P.info? el with
    | none => rw [hh] at hpos; simp at hpos
    | some i => exact ⟨i, rfl⟩
  have hb : i.bytes = P.bytesOf el := by simp [Program.bytesOf, hi]
  obtain ⟨zv, hzv, hzc⟩ := zero_run hz w
  have hbig : (i.bytes : Int) * m ≤ 4096 * 4294967296 := by
    have h1 : (i.bytes : Int) ≤ 4096 := by omega
    exact Int.mul_le_mul h1 h.2.2 (by omega) (by omega)
  have hc : (decide (m < 0) || decide ((i.bytes : Int) * m > 2 ^ 48) || decide (n < 0) || decide (n > m)) = false := by
    simp only [Bool.or_eq_false_iff, decide_eq_false_iff_not]
    have : (4096 * 4294967296 : Int) ≤ 2 ^ 48 := by decide
    refine ⟨⟨⟨by omega, by omega⟩, by omega⟩, by omega⟩
  simp only [Instr.makeSlice, Sem.run_bind, run_underlying hu, Result.andThen_ok, asInt, asIntOf, Sem.run_pure, typeInfo, run_program, hi, e1, e2]
  rw [hc]
  simp only [Bool.false_eq_true, if_false, Sem.run_bind, run_askRoom, Result.andThen_ok, cells_info hpos, Sem.run_ite]
  by_cases h0 : m.toNat * P.cellsOf el = 0
  · have hm : m.toNat = 0 := by rcases Nat.mul_eq_zero.1 h0 with h | h; exact h; exact absurd h hpos
    have e0 : ∀ f : Nat → Value, Array.map f (Array.range 0) = #[] := fun f => by rw [arr_map]; simp
    simp [hm, newRow, Lf.enc, Sl.enc_some, Pt.addr, rep, e0]
  · rw [if_neg h0]
    simp only [hzv, Result.andThen_ok, Sem.run_pure, Sem.run_bind, newRow, run_newObj, hzc]
    simp only [List.size_toArray, List.length_map, hzl]
    rw [zeroCells_eq hzl (by omega)]
    rfl
theorem bound_run {x : Int} {k : IntKind} {y n : Nat} {code : BoundsCode} {w : World} (h : x = n) (hle : n ≤ y) : (Instr.sliceBound (.int k x) y code).run P w = .ok n w := by
  subst h
  simp [Instr.sliceBound, asIntOf, hle]
def encI (k : IntKind) : Option Int → Option Value
  | none => none
  | some n => some (.int k n)
def OptOk : Option Int → Option Value → Prop
  | none, none => True
  | some n, some v => ∃ k, v = .int k n
  | _, _ => False
theorem bounds_run {w : World} {bb : Bool} {len cap : Nat} {lo hi mx : Option Int} {vl vh vm : Option Value} {l h m : Nat}
    (el1 : OptOk lo vl) (el2 : OptOk hi vh) (el3 : OptOk mx vm) (hmh : mx.isSome = true → hi.isSome = true)
    (b1 : bnd lo 0 l) (b2 : bnd hi len h) (b3 : bnd mx cap m) (hlh : l ≤ h) (hhm : h ≤ m) (hmc : m ≤ cap) :
    (Instr.sliceBounds bb len cap vl vh vm).run P w = .ok (l, h, m) w := by
  unfold Instr.sliceBounds
  cases mx with
  | none =>
    cases vm with
    | some v => exact el3.elim
    | none =>
      simp only [bnd] at b3
      subst b3
      cases hi with
      | none =>
        cases vh with
        | some v => exact el2.elim
        | none =>
          simp only [bnd] at b2
          subst b2
          cases lo with
          | none => cases vl with
            | some v => exact el1.elim
            | none => simp only [bnd] at b1; subst b1; simp
          | some n => cases vl with
            | none => exact el1.elim
            | some v => obtain ⟨k, rfl⟩ := el1; simp [bound_run b1 hlh]
      | some n2 =>
        cases vh with
        | none => exact el2.elim
        | some v2 =>
          obtain ⟨k2, rfl⟩ := el2
          cases lo with
          | none => cases vl with
            | some v => exact el1.elim
            | none => simp only [bnd] at b1; subst b1; simp [bound_run b2 hhm]
          | some n => cases vl with
            | none => exact el1.elim
            | some v => obtain ⟨k, rfl⟩ := el1; simp [bound_run b1 hlh, bound_run b2 hhm]
  | some n3 =>
    cases vm with
    | none => exact el3.elim
    | some v3 =>
      obtain ⟨k3, rfl⟩ := el3
      cases hi with
      | none => exact absurd (hmh rfl) (by simp)
      | some n2 =>
        cases vh with
        | none => exact el2.elim
        | some v2 =>
          obtain ⟨k2, rfl⟩ := el2
          cases lo with
          | none => cases vl with
            | some v => exact el1.elim
            | none => simp only [bnd] at b1; subst b1; simp [bound_run b2 hhm, bound_run b3 hmc]
          | some n => cases vl with
            | none => exact el1.elim
            | some v => obtain ⟨k, rfl⟩ := el1; simp [bound_run b1 hlh, bound_run b2 hhm, bound_run b3 hmc]
theorem slice_run {w : World} {t el : TypeId} {s : Sl} {lo hi mx : Option Int} {vl vh vm : Option Value} {l h m : Nat} (hu : P.underlying t = some (.slice el)) (hsz : P.cellsOf el ≠ 0)
    (el1 : OptOk lo vl) (el2 : OptOk hi vh) (el3 : OptOk mx vm) (hmh : mx.isSome = true → hi.isSome = true)
    (hodd : s.odd = false) (hnz : s.cap ≠ 0 → s.p ≠ none) (b1 : bnd lo 0 l) (b2 : bnd hi s.len h) (b3 : bnd mx s.cap m) (hb : l ≤ h ∧ h ≤ m ∧ m ≤ s.cap) :
    (Instr.sliceAt t (Lf.sl s).enc vl vh vm).run P w = .ok (Lf.sl (s.sub l h m (P.cellsOf el))).enc w := by
  obtain ⟨hlh, hhm, hmc⟩ := hb
  have hbounds : (Instr.sliceBounds true s.len s.cap vl vh vm).run P w = .ok (l, h, m) w := bounds_run el1 el2 el3 hmh b1 b2 b3 hlh hhm hmc
  unfold Instr.sliceAt
  have hsub : (s.sub l h m (P.cellsOf el)).odd = false := by
    cases hp : s.p with
    | none =>
      have hc : s.cap = 0 ∨ s.len ≠ 0 := by
        rw [Sl.odd, hp] at hodd
        by_cases h1 : s.cap = 0
        · exact .inl h1
        · refine .inr fun h2 => ?_
          rw [h2] at hodd
          cases hh : s.cap with
          | zero => exact h1 hh
          | succ k => rw [hh] at hodd; cases hodd
      have hm0 : m = 0 ∨ s.len ≠ 0 := by omega
      rcases Nat.eq_zero_or_pos (m - l) with h0 | h0
      · exact Sl.norm_c (s := s.sub l h m _) h0
      · exact absurd hp (hnz (by omega))
    | some q =>
      by_cases hml : m = l
      · exact Sl.norm_p (q := q) (by simp [Sl.sub, hml, hp])
      · exact Sl.norm_p (q := ⟨q.b, q.o + l * P.cellsOf el⟩) (by simp [Sl.sub, hml, hp])
  simp only [Lf.enc, Sl.enc_n hodd, Sl.enc_n hsub, Sem.run_bind, run_underlying hu, Result.andThen_ok, Instr.slice, hbounds, cells_info hsz, Sem.run_pure]
  unfold Sl.sub
  by_cases hml : m = l
  · simp [hml]
  · simp only [if_neg hml]
    cases s.p with
    | none => simp
    | some q => simp [add_eq, Pt.addr]
theorem arrslice_run {w : World} {t el : TypeId} {n : Nat} {p : Pt} {lo hi mx : Option Int} {vl vh vm : Option Value} {l h m : Nat} (hu : P.underlying t = some (.array n el)) (hsz : P.cellsOf el ≠ 0)
    (el1 : OptOk lo vl) (el2 : OptOk hi vh) (el3 : OptOk mx vm) (hmh : mx.isSome = true → hi.isSome = true)
    (b1 : bnd lo 0 l) (b2 : bnd hi n h) (b3 : bnd mx n m) (hb : l ≤ h ∧ h ≤ m ∧ m ≤ n) :
    (Instr.sliceAt t (Lf.ptr (some p)).enc vl vh vm).run P w = .ok (Lf.sl ((⟨some p, n, n⟩ : Sl).sub l h m (P.cellsOf el))).enc w := by
  obtain ⟨hlh, hhm, hmc⟩ := hb
  have hbounds : (Instr.sliceBounds false n n vl vh vm).run P w = .ok (l, h, m) w := bounds_run el1 el2 el3 hmh b1 b2 b3 hlh hhm hmc
  unfold Instr.sliceAt
  simp only [Lf.enc, Option.map_some, Sem.run_bind, run_underlying hu, Result.andThen_ok, Instr.sureAddr, Sem.run_pure, hbounds, cells_info hsz]
  unfold Sl.sub
  by_cases hml : m = l
  · simp [hml, Sl.enc_some]
  · simp [hml, Sl.enc_some, add_eq, Pt.addr]
theorem clear_run {w : World} {ts : Array TypeId} {t ty el : TypeId} {z : List Lf} {s : Sl} {A : WP} (h0 : ts[0]? = some ty) (hu : P.underlying ty = some (.slice el)) (hz : zeroLs P el = some z) (hpos : 0 < z.length) (h : clr z s A w) :
    ∃ w', (Builtin.clear_ ts t #[(Lf.sl s).enc]).run P w = .ok (.tuple #[]) w' ∧ Dfr w w' ∧ A w' := by
  obtain ⟨zv, hzv, hzc⟩ := zero_run hz w
  unfold Builtin.clear_
  simp only [h0, Lf.enc, List.getElem?_toArray, List.getElem?_cons_zero, Sem.run_bind, run_underlying hu, Result.andThen_ok]
  rcases h with ⟨hn, hA⟩ | ⟨q, C, hp, hl, hb, hle, hk⟩
  · refine ⟨w, ?_, Dfr.refl w, hA⟩
    obtain ⟨a, c, hx, hy, _⟩ := s.enc_len
    rw [hx]
    rcases hn with hn | hn
    · cases ho : s.odd with
      | true =>
        rw [(Sl.odd_of ho).2.1]
        cases a <;> simp
      | false => rw [(hy ho).1, hn]; simp
    · rw [hn]
      cases a <;> simp
  · obtain ⟨w', r1, r2, r3, r4⟩ := setCells_run (P := P) (rep s.len z) C q.o 0 hb (by rw [rep_length]; simpa using hle)
    rw [Nat.add_zero] at r3
    refine ⟨w', ?_, r2.dfr, hk w' r2 r3 r4⟩
    rw [Sl.enc_p hp]
    simp only [Sem.run_bind, hzv, Result.andThen_ok, hzc]
    rw [zeroCells_eq' rfl hpos]
    simp only [Pt.addr]
    rw [r1]
    rfl

section
variable {e : Env} {a : Act} {c : Ctx} {w : World} {r : Option Nat}
theorem optI_ok (hA : Agr e a) (hc : Holds c a) {x : Option Operand} {n : Option Int} (h : optI e c x = some n) : OptOk n (x.map a.eval) := by
  unfold optI at h
  cases x with
  | none => cases h; trivial
  | some x =>
    simp only at h
    split at h
    · rename_i k m hm
      cases h
      exact ⟨k, evG_ok hA hc hm⟩
    · cases h
theorem blk_new (w : World) (ls : List Lf) (T : TypeId) : Ext no1 w { w with heap := w.heap.push (.cells (ls.map Lf.enc).toArray T) } ∧ Blk { w with heap := w.heap.push (.cells (ls.map Lf.enc).toArray T) } w.heap.size ls ∧ ({ w with heap := w.heap.push (.cells (ls.map Lf.enc).toArray T) } : World).heap.size = w.heap.size + 1 :=
  ⟨ext_alloc w _, blk_alloc w ls T, by simp⟩
theorem indexAt_sl {t el : TypeId} {d : TypeDesc} {q : Pt} {len cap : Nat} {k : IntKind} {n : Int} (hu : P.underlying t = some (.slice el)) (hd : P.underlying el = some d) (hb : 0 ≤ n ∧ n < len) :
    (Instr.indexAt t (.slice (some q.addr) len cap) (.int k n)).run P w = .ok (.pointer (some (⟨q.b, q.o + n.toNat * P.cellsOf el⟩ : Pt).addr)) w := by
  unfold Instr.indexAt
  simp [asIntOf, run_underlying hu, sizeOf_run hd, hb, add_eq, Pt.addr]
theorem indexAt_ar {t el : TypeId} {d : TypeDesc} {q : Pt} {len : Nat} {k : IntKind} {n : Int} (hu : P.underlying t = some (.array len el)) (hd : P.underlying el = some d) (hb : 0 ≤ n ∧ n < len) :
    (Instr.indexAt t (.pointer (some q.addr)) (.int k n)).run P w = .ok (.pointer (some (⟨q.b, q.o + n.toNat * P.cellsOf el⟩ : Pt).addr)) w := by
  unfold Instr.indexAt
  simp [asIntOf, run_underlying hu, sizeOf_run hd, hb, add_eq, Pt.addr, Instr.sureAddr]
theorem index_ar {t el : TypeId} {d : TypeDesc} {ls : List Lf} {len : Nat} {k : IntKind} {n : Int} {v : V1} (hu : P.underlying t = some (.array len el)) (hd : P.underlying el = some d) (hb : 0 ≤ n ∧ n < len) (hv : partV P el ls (n.toNat * P.cellsOf el) = some v) :
    (Instr.index t (.agg (ls.map Lf.enc).toArray) (.int k n)).run P w = .ok v.enc w := by
  unfold Instr.index
  simp [asIntOf, run_underlying hu, hb, sizeOf_run hd, leafOf_run hv hd]
theorem pureV_nd {o : Oper} {v : TV} (h : pureV P e c o = some v) : ∀ x, o.op ≠ .defer x := by
  intro x hx
  unfold pureV at h
  rw [hx] at h
  cases h
theorem opS_ok (hA : Agr e a) (hc : Holds c a) {o : Oper} {K : TV → WP} (h : opS P e c o K w) : Goes P r a o w K := by
  obtain ⟨Y, hX, h⟩ : ∃ Y, opS P e c o K = Y ∧ Y w := ⟨_, rfl, h⟩
  unfold opS at hX
  split at hX
  · rename_i v hv
    subst hX
    exact goes_val (pureV_nd hv) (pureV_ok hA hc hv w) (Dfr.refl w) h
  · split at hX
    · -- alloc
      rename_i t ho
      split at hX
      · rename_i ls hz
        subst hX
        obtain ⟨b1, b2, b3⟩ := blk_new w ls t
        refine goes_val (v := .one (.lf (.ptr (some ⟨w.heap.size, 0⟩)))) (by rw [ho]; intro x; simp) ?_ b1.dfr (h _ b1 b2 b3)
        obtain ⟨zv, hzv, hzc⟩ := zero_run hz w
        simp only [execOp, ho, Instr.alloc, Sem.run_bind, hzv, Result.andThen_ok, newVar, newRow, hzc, run_newObj, Sem.run_pure]
        rfl
      · subst hX; exact h.elim
    · -- box
      rename_i t x ho
      split at hX
      · rename_i v hv
        subst hX
        obtain ⟨b1, b2, b3⟩ := blk_new w v.lfs t
        refine goes_val (v := .one (.lf (.ptr (some ⟨w.heap.size, 0⟩)))) (by rw [ho]; intro x; simp) ?_ b1.dfr (h _ b1 b2 b3)
        simp only [execOp, ho, Instr.box, evG_ok hA hc hv, TV.enc, newVar, newRow, V1.cells, Sem.run_bind, run_newObj, Result.andThen_ok, Sem.run_pure]
        rfl
      · subst hX; exact h.elim
    · -- buildSlice
      rename_i t n ps ho
      split at hX
      · rename_i el hel
        split at hX
        · rename_i z vs hz hvs
          split at hX
          · rename_i ls hcond hls
            subst hX
            simp only [Bool.and_eq_true, Nat.beq_eq, Nat.ble_eq, Bool.not_eq_true'] at hcond
            obtain ⟨⟨hzl, hn⟩, hpos⟩ := hcond
            have hpos' : P.cellsOf el ≠ 0 := fun hh => by rw [hh] at hpos; cases hpos
            obtain ⟨b1, b2, b3⟩ := blk_new w ls el
            refine goes_val (v := .one (.lf (.sl ⟨some ⟨w.heap.size, 0⟩, n, n⟩))) (by rw [ho]; intro x; simp) ?_ b1.dfr (h _ b1 b2 b3)
            obtain ⟨zv, hzv, hzc⟩ := zero_run hz w
            have e1 := evParts_ok hA hc hvs
            have e2 : (ps.map (fun x : Nat × Operand => (x.1, a.eval x.2))).toList = vs.map fun x => (x.1, x.2.enc) := by
              rw [← e1]; exact Array.toList_map
            have hfill := fill_ok hls
            have hrep : ((List.replicate n z).flatten.map Lf.enc).toArray = (Array.range (n * P.cellsOf el)).map (fun i => ((z.map Lf.enc).toArray)[i % P.cellsOf el]!) := by
              rw [zeroCells_eq hzl (by omega)]; rfl
            rw [hrep] at hfill
            simp only [execOp, ho, Instr.buildSlice, Sem.run_bind, run_underlying (elemT_ok hel), Result.andThen_ok, cells_info hpos', Sem.run_ite]
            rw [if_neg (by omega)]
            by_cases h0 : n * P.cellsOf el = 0
            · have hn0 : n = 0 := by rcases Nat.mul_eq_zero.1 h0 with h | h; exact h; exact absurd h hpos'
              subst hn0
              simp only [Nat.zero_mul] at hfill
              have e0 : ∀ f : Nat → Value, Array.map f (Array.range 0) = #[] := fun f => by rw [arr_map]; simp
              simp only [e0] at hfill
              simp only [Nat.zero_mul, if_true, Sem.run_pure, Result.andThen_ok, e0, Sem.run_bind, newRow, run_newObj]
              rw [e2, hfill]
              simp [TV.enc, V1.enc, Lf.enc, Sl.enc_some, Pt.addr]
            · rw [if_neg h0]
              simp only [hzv, Result.andThen_ok, Sem.run_pure, Sem.run_bind, hzc]
              simp only [List.size_toArray, List.length_map, hzl]
              rw [e2, hfill]
              simp [newRow, TV.enc, V1.enc, Lf.enc, Sl.enc_some, Pt.addr]
          · subst hX; exact h.elim
        · subst hX; exact h.elim
      · subst hX; exact h.elim
    · -- load
      rename_i t x ho
      split at hX
      · rename_i p hp
        unfold loadS at hX
        have hrun : ∀ v, (loadVar t p.addr).run P w = .ok v w → (execOp a.eval o).run P w = .ok (.value v) w := by
          intro v hv
          simp only [execOp, ho, Instr.loadAt, evG_ok hA hc hp, TV.enc, V1.enc, Lf.enc, Option.map_some, Instr.sureAddr, Sem.run_bind, Sem.run_pure, Result.andThen_ok, hv]
        split at hX
        · rename_i k hk
          subst hX
          obtain ⟨y, hr, hK⟩ := h
          obtain ⟨hg, d, hd⟩ := shT_lf hk
          exact goes_val (v := .one (.lf (k.mk y))) (by rw [ho]; intro x; simp) (hrun _ (loadVar_lf hd hg hr)) (Dfr.refl w) hK
        · rename_i ks hk
          subst hX
          obtain ⟨y, hr, hK⟩ := h
          obtain ⟨hg, ⟨d, hd⟩, hl⟩ := shT_agg hk
          exact goes_val (v := .one (.agg (Ks.mk ks y))) (by rw [ho]; intro x; simp) (hrun _ (loadVar_agg hd hg (by rw [Ks.len]; exact hl) hr)) (Dfr.refl w) hK
        · subst hX; exact h.elim
      · subst hX; exact h.elim
    · -- store
      rename_i t x y ho
      split at hX
      · rename_i p v hp hv
        split at hX
        · rename_i hl
          subst hX
          obtain ⟨L, hb, hle, hk⟩ := h
          obtain ⟨w', r1, r2, r3, r4⟩ := setCells_run (P := P) v.lfs L p.o 0 hb hle
          rw [Nat.add_zero] at r3
          simp only [Bool.and_eq_true, Nat.beq_eq, Bool.not_eq_true'] at hl
          obtain ⟨hlen, hz⟩ := hl
          have hz' : P.cellsOf t ≠ 0 := fun hh => by rw [hh] at hz; cases hz
          refine goes_skip (by rw [ho]; intro x; simp) ?_ r2.dfr (hk w' r2 r3 r4)
          have hrun : (Instr.storeAt t (.pointer (some p.addr)) v.enc).run P w = .ok () w' := by
            simp only [Instr.storeAt, Instr.sureAddr, Sem.run_bind, Sem.run_pure, Result.andThen_ok, storeVar, cells_info hz', V1.cells]
            rw [if_neg (by simp [hlen])]
            simp only [r1]
          simp only [execOp, ho, evG_ok hA hc hp, evG_ok hA hc hv]
          rw [Sem.run_bind]
          have : TV.enc (.one (.lf (.ptr (some p)))) = .pointer (some p.addr) := rfl
          rw [this]
          have : TV.enc (.one v) = v.enc := rfl
          rw [this, hrun]
          rfl
        · subst hX; exact h.elim
      · subst hX; exact h.elim
    · -- nilCheck
      rename_i x ho
      split at hX
      · rename_i p hp
        subst hX
        obtain ⟨q, hq, hK⟩ := h
        subst hq
        refine goes_val (v := .one (.lf (.ptr (some q)))) (by rw [ho]; intro x; simp) ?_ (Dfr.refl w) hK
        simp only [execOp, ho, evG_ok hA hc hp]
        rfl
      · rename_i f hf
        subst hX
        obtain ⟨⟨n, fi, ca, hfe⟩, hK⟩ := h
        refine goes_val (v := .one (.lf (.fn f))) (by rw [ho]; intro x; simp) ?_ (Dfr.refl w) hK
        simp only [execOp, ho, evG_ok hA hc hf]
        rcases hfe with rfl | rfl <;> rfl
      · subst hX; exact h.elim
    · -- binOp
      rename_i op t x y u ho
      split at hX
      · rename_i k p k' q hp hq
        split at hX
        · subst hX; exact divS_ok ho (evG_ok hA hc hp) (evG_ok hA hc hq) (.inl rfl) h
        · subst hX; exact divS_ok ho (evG_ok hA hc hp) (evG_ok hA hc hq) (.inr (.inl rfl)) h
        · split at hX
          · rename_i hk
            subst hX; exact divS_ok ho (evG_ok hA hc hp) (evG_ok hA hc hq) (.inr (.inr (isK_ok hk))) h
          · subst hX; exact h.elim
      · rename_i p q hp hq
        split at hX
        · subst hX
          obtain ⟨hle, hK⟩ := h
          refine goes_val (v := .one (.lf (.str (p ++ q)))) (by rw [ho]; intro x; simp) ?_ (Dfr.refl w) hK
          have hg := eqGuard_leaf (P := P) .add t x y (.str p) (.str q) w
          simp only [Lf.enc] at hg
          have ep : a.eval x = .string p := evG_ok hA hc hp
          have eq : a.eval y = .string q := evG_ok hA hc hq
          simp only [execOp, ho, ep, eq]
          rw [Sem.run_bind, Sem.run_bind, hg]
          have hmx : IntKind.i64.max = 9223372036854775807 := rfl
          rw [hmx] at hle
          simp [binOp, Op.stringOp, TV.enc, V1.enc, Lf.enc]
          omega
        · subst hX; exact h.elim
      · subst hX; exact h.elim
    · -- indexAddr
      rename_i t x i ho
      split at hX
      · rename_i s k n hs hn
        split at hX
        · rename_i el hel
          split at hX
          · rename_i hdd
            subst hX
            obtain ⟨d, hd⟩ := Option.isSome_iff_exists.1 hdd
            obtain ⟨q, hq, hb, hK⟩ := h
            refine goes_val (v := .one (.lf (.ptr (some _)))) (by rw [ho]; intro x; simp) ?_ (Dfr.refl w) hK
            have e1 : a.eval x = .slice (some q.addr) s.len s.cap := by rw [evG_ok hA hc hs]; simp [TV.enc, V1.enc, Lf.enc, Sl.enc_p hq]
            have e2 : a.eval i = .int k n := evG_ok hA hc hn
            simp only [execOp, ho, e1, e2]
            rw [Sem.run_bind, indexAt_sl (elemT_ok hel) hd hb]
            rfl
          · subst hX; exact h.elim
        · subst hX; exact h.elim
      · rename_i p k n hp hn
        split at hX
        · rename_i len el hu
          split at hX
          · rename_i hdd
            subst hX
            obtain ⟨d, hd⟩ := Option.isSome_iff_exists.1 hdd
            obtain ⟨hb, hK⟩ := h
            refine goes_val (v := .one (.lf (.ptr (some _)))) (by rw [ho]; intro x; simp) ?_ (Dfr.refl w) hK
            have e1 : a.eval x = .pointer (some p.addr) := evG_ok hA hc hp
            have e2 : a.eval i = .int k n := evG_ok hA hc hn
            simp only [execOp, ho, e1, e2]
            rw [Sem.run_bind, indexAt_ar hu hd hb]
            rfl
          · subst hX; exact h.elim
        · subst hX; exact h.elim
      · subst hX; exact h.elim
    · -- makeSlice
      rename_i t l cp ho
      split at hX
      · rename_i el k1 n k2 m hel hl hcp
        split at hX
        · rename_i z hz
          split at hX
          · rename_i hcond
            subst hX
            simp only [Bool.and_eq_true, Nat.beq_eq, Nat.ble_eq, Bool.not_eq_true'] at hcond
            obtain ⟨⟨hzl, hpos⟩, hby⟩ := hcond
            have hpos' : P.cellsOf el ≠ 0 := fun hh => by rw [hh] at hpos; cases hpos
            obtain ⟨hb, hk⟩ := h
            obtain ⟨b1, b2, b3⟩ := blk_new w (rep m.toNat z) el
            have hr := makeSlice_run (P := P) (w := w) (k1 := k1) (k2 := k2) (elemT_ok hel) hz hzl hpos' hby hb
            refine goes_val (v := .one (.lf (.sl _))) (by rw [ho]; intro x; simp) ?_ b1.dfr (hk _ b1 b2 b3)
            simp only [execOp, ho]
            have e1 : a.eval l = .int k1 n := evG_ok hA hc hl
            have e2 : a.eval cp = .int k2 m := evG_ok hA hc hcp
            rw [e1, e2, Sem.run_bind, hr]
            rfl
          · subst hX; exact h.elim
        · subst hX; exact h.elim
      · subst hX; exact h.elim
    · -- slice
      rename_i t x lo hi mx ho
      split at hX
      · rename_i n el harr
        split at hX
        · rename_i p l hh m hs hlo hhi hmx
          split at hX
          · rename_i hcond
            subst hX
            simp only [Bool.and_eq_true, Bool.not_eq_true'] at hcond
            obtain ⟨hz, hmh⟩ := hcond
            have hz' : P.cellsOf el ≠ 0 := fun hh => by rw [hh] at hz; cases hz
            obtain ⟨_, l', h', m', b1, b2, b3, hb, hK⟩ := h
            refine goes_val (v := .one (.lf (.sl _))) (by rw [ho]; intro x; simp) ?_ (Dfr.refl w) hK
            have e1 : a.eval x = (Lf.ptr (some p)).enc := evG_ok hA hc hs
            simp only [execOp, ho, e1]
            rw [Sem.run_bind, arrslice_run (arrT_ok harr) hz' (optI_ok hA hc hlo) (optI_ok hA hc hhi) (optI_ok hA hc hmx) (fun hm => by rw [hm] at hmh; simpa using hmh) b1 b2 b3 hb]
            rfl
          · subst hX; exact h.elim
        · subst hX; exact h.elim
      split at hX
      · rename_i el s l hh m hel hs hlo hhi hmx
        split at hX
        · rename_i hcond
          subst hX
          simp only [Bool.and_eq_true, Bool.not_eq_true'] at hcond
          obtain ⟨hz, hmh⟩ := hcond
          have hz' : P.cellsOf el ≠ 0 := fun hh => by rw [hh] at hz; cases hz
          obtain ⟨⟨hodd, hnz⟩, l', h', m', b1, b2, b3, hb, hK⟩ := h
          refine goes_val (v := .one (.lf (.sl _))) (by rw [ho]; intro x; simp) ?_ (Dfr.refl w) hK
          have e1 : a.eval x = (Lf.sl s).enc := evG_ok hA hc hs
          simp only [execOp, ho, e1]
          rw [Sem.run_bind, slice_run (elemT_ok hel) hz' (optI_ok hA hc hlo) (optI_ok hA hc hhi) (optI_ok hA hc hmx) (fun hm => by rw [hm] at hmh; simpa using hmh) hodd hnz b1 b2 b3 hb]
          rfl
        · subst hX; exact h.elim
      · subst hX; exact h.elim
    · -- index
      rename_i t x i ho
      split at hX
      · rename_i ls k n len el hls hn hu
        have e1 : a.eval x = .agg (ls.map Lf.enc).toArray := evG_ok hA hc hls
        have e2 : a.eval i = .int k n := evG_ok hA hc hn
        split at hX
        · rename_i c hk
          subst hX
          obtain ⟨hb, y, hy, hK⟩ := h
          obtain ⟨hg, d, hd⟩ := shT_lf hk
          refine goes_val (v := .one (.lf _)) (by rw [ho]; intro x; simp) ?_ (Dfr.refl w) hK
          simp only [execOp, ho, e1, e2]
          rw [Sem.run_bind, index_ar (v := .lf (c.mk y)) hu hd hb (by
            unfold partV
            rw [hg]
            have hz := congrArg (fun z => z[0]?) hy
            simp only [Ks.mk, List.getElem?_take] at hz
            split at hz
            · simp only [List.getElem?_cons_zero, List.getElem?_drop, Nat.add_zero] at hz
              simp [← hz]
            · simp at hz)]
          rfl
        · rename_i c hk
          subst hX
          obtain ⟨hb, y, hy, hK⟩ := h
          obtain ⟨hg, ⟨d, hd⟩, hl⟩ := shT_agg hk
          refine goes_val (v := .one (.agg _)) (by rw [ho]; intro x; simp) ?_ (Dfr.refl w) hK
          simp only [execOp, ho, e1, e2]
          rw [Sem.run_bind, index_ar (v := .agg (Ks.mk c y)) hu hd hb (by unfold partV; rw [hg]; simp [hy])]
          rfl
        · subst hX; exact h.elim
      · rename_i s k n hs hn hu
        subst hX
        have e1 : a.eval x = .string s := evG_ok hA hc hs
        have e2 : a.eval i = .int k n := evG_ok hA hc hn
        obtain ⟨b, ⟨h0, hb⟩, hK⟩ := h
        refine goes_val (v := .one (.lf (.int .u8 _))) (by rw [ho]; intro x; simp) ?_ (Dfr.refl w) hK
        simp only [execOp, ho, e1, e2]
        have : (Instr.index t (.string s) (.int k n)).run P w = .ok (.int .u8 b.toNat) w := by
          unfold Instr.index
          simp [asIntOf, run_underlying hu, h0, hb]
        rw [Sem.run_bind, this]
        rfl
      · subst hX; exact h.elim
    · -- calls
      rename_i cl ho
      have hnd : ∀ x, o.op ≠ .defer x := by rw [ho]; intro x; simp
      split at hX
      · -- append
        rename_i hcal
        split at hX
        · rename_i s x el el2 hvs h0 h1
          split at hX
          · rename_i z hz
            split at hX
            · rename_i hcond
              subst hX
              simp only [Bool.and_eq_true, Nat.beq_eq, Nat.ble_eq, Bool.not_eq_true'] at hcond
              obtain ⟨⟨⟨hzl, hpos⟩, hby⟩, hb0⟩ := hcond
              have hpos' : P.cellsOf el ≠ 0 := fun hh => by rw [hh] at hpos; cases hpos
              have hb0' : P.bytesOf el ≠ 0 := fun hh => by rw [hh] at hb0; cases hb0
              obtain ⟨ty, ht0, hu⟩ := Option.bind_eq_some_iff.1 h0
              obtain ⟨ty2, ht1, hu2⟩ := Option.bind_eq_some_iff.1 h1
              obtain ⟨L, M, hs, hx, hlen, hK⟩ := h
              obtain ⟨w', s', r1, r2, r3, r4, r5, r6, r7⟩ := append_run (P := P) (t := o.type) ht0 ht1 (elemT_ok hu) (elemT_ok hu2) hz hzl rfl (by omega) hby hb0' hs hx hlen
              refine goes_val (v := .one (.lf (.sl s'))) hnd ?_ r2.dfr (hK w' s' r2 r3 r4 r5 r6 r7)
              have e1 : cl.args.map a.eval = #[(Lf.sl s).enc, (Lf.sl x).enc] := by
                have := evs_ok hA hc hvs
                rw [arr_map, this]; rfl
              simp only [execOp, ho, resolve, hcal, e1, Sem.run_bind, Sem.run_pure, Result.andThen_ok, invoke]
              show (builtin .append cl.argTypes o.type _ _).run P w = _
              simp only [builtin, Sem.run_bind, r1, Result.andThen_ok]
              rfl
            · subst hX; exact h.elim
          · subst hX; exact h.elim
        · -- made zeros
          rename_i s k n el hvs h0 h1
          split at hX
          · rename_i z hz hit
            split at hX
            · rename_i hcond
              subst hX
              simp only [Bool.and_eq_true, Nat.beq_eq, Nat.ble_eq, Bool.not_eq_true'] at hcond
              obtain ⟨⟨⟨hzl, hpos⟩, hby⟩, hb0⟩ := hcond
              have hpos' : P.cellsOf el ≠ 0 := fun hh => by rw [hh] at hpos; cases hpos
              have hb0' : P.bytesOf el ≠ 0 := fun hh => by rw [hh] at hb0; cases hb0
              obtain ⟨ty, ht0, hu⟩ := Option.bind_eq_some_iff.1 h0
              obtain ⟨ty2, ht1, hu2⟩ := Option.bind_eq_some_iff.1 hit
              obtain ⟨k2, hu3⟩ : ∃ k2, P.underlying ty2 = some (.int k2) := by
                unfold intT at hu2
                split at hu2
                · rename_i k2 hk2; exact ⟨k2, hk2⟩
                · cases hu2
              obtain ⟨L, hs, ⟨hn0, hlen⟩, hK⟩ := h
              obtain ⟨w', s', r1, r2, r3, r4, r5, _⟩ := appendz_run (P := P) (t := o.type) (kx := k) ht0 ht1 (elemT_ok hu) hu3 hz hzl rfl (by omega) hby hb0' hs hn0 hlen
              refine goes_val (v := .one (.lf (.sl s'))) hnd ?_ r2.dfr (hK w' s' r2 r3 r4 r5)
              have e1 : cl.args.map a.eval = #[(Lf.sl s).enc, Value.int k n] := by
                have := evs_ok hA hc hvs
                rw [arr_map, this]; rfl
              simp only [execOp, ho, resolve, hcal, e1, Sem.run_bind, Sem.run_pure, Result.andThen_ok, invoke]
              show (builtin .append cl.argTypes o.type _ _).run P w = _
              simp only [builtin, Sem.run_bind, r1, Result.andThen_ok]
              rfl
            · subst hX; exact h.elim
          · subst hX; exact h.elim
        · subst hX; exact h.elim
      · -- clear
        rename_i hcal
        split at hX
        · rename_i s el hvs h0
          split at hX
          · rename_i z hz
            split at hX
            · rename_i hcond
              subst hX
              obtain ⟨ty, ht0, hu⟩ := Option.bind_eq_some_iff.1 h0
              obtain ⟨w', r1, r2, r3⟩ := clear_run (P := P) (t := o.type) ht0 (elemT_ok hu) hz (Nat.le_of_ble_eq_true hcond) h
              refine goes_val (v := und) hnd ?_ r2 r3
              have e1 : cl.args.map a.eval = #[(Lf.sl s).enc] := by
                have := evs_ok hA hc hvs
                rw [arr_map, this]; rfl
              simp only [execOp, ho, resolve, hcal, e1, Sem.run_bind, Sem.run_pure, Result.andThen_ok, invoke]
              show (builtin .clear cl.argTypes o.type _ _).run P w = _
              simp only [builtin, Sem.run_bind, r1, Result.andThen_ok]
              rfl
            · subst hX; exact h.elim
          · subst hX; exact h.elim
        · subst hX; exact h.elim
      · -- a function by name
        rename_i f hcal
        split at hX
        · rename_i vs hvs
          subst hX
          refine resS_ok hnd ?_ h
          have e1 : cl.args.map a.eval = (vs.map V1.enc).toArray := by rw [← evs_ok hA hc hvs]; exact arr_map _ _
          simp [execOp, ho, resolve, hcal, e1, Act.eval, Deferred.ofValue, invoke]
        · subst hX; exact h.elim
      · -- a function value
        rename_i x hcal
        split at hX
        · rename_i f vs hf hvs
          subst hX
          have e1 : cl.args.map a.eval = (vs.map V1.enc).toArray := by rw [← evs_ok hA hc hvs]; exact arr_map _ _
          obtain ⟨callee, as, ts⟩ := cl
          simp only at hcal
          subst hcal
          exact resVS_ok ho (evG_ok hA hc hf) e1 h
        · subst hX; exact h.elim
      · subst hX; exact h.elim
    · subst hX; exact h.elim
end
end Go.X
