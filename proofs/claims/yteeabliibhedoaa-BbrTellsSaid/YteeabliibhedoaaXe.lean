/- The reading of Xb is sound, third part: operations that only compute, together. -/
import Derived.Test.YteeabliibhedoaaXd
namespace Go.X
variable {P : Program}

theorem set_splice (L : List Lf) (off : Nat) (l : Lf) (r : List Lf) (h : off + (l :: r).length ≤ L.length) : splice (L.set off l) (off + 1) r = splice L off (l :: r) := by
  unfold splice
  simp only [List.length_cons] at h ⊢
  rw [List.set_eq_take_append_cons_drop, if_pos (by omega)]
  have h1 : (List.take off L ++ l :: List.drop (off + 1) L).take (off + 1) = List.take off L ++ [l] := by
    rw [List.take_append]
    simp only [List.length_take]
    rw [show min off L.length = off by omega, show off + 1 - off = 1 by omega, List.take_of_length_le (by simp; omega)]
    simp
  have h2 : (List.take off L ++ l :: List.drop (off + 1) L).drop (off + 1 + r.length) = L.drop (off + (r.length + 1)) := by
    rw [List.drop_append]
    simp only [List.length_take]
    rw [show min off L.length = off by omega, List.drop_of_length_le (by simp; omega), show off + 1 + r.length - off = r.length + 1 by omega]
    simp
    rw [show off + 1 + r.length = off + (r.length + 1) by omega]
  rw [h1, h2]
  simp
theorem foldSet (off : Nat) : ∀ (r : List Lf) (k : Nat) (L : List Lf), off + k + r.length ≤ L.length →
    ((r.map Lf.enc).zipIdx k).foldl (fun (cs : Array Value) (x : Value × Nat) => cs.setIfInBounds (off + x.2) x.1) (L.map Lf.enc).toArray = ((splice L (off + k) r).map Lf.enc).toArray
  | [], k, L, h => by simp [splice]
  | l :: r, k, L, h => by
    simp only [List.map_cons, List.zipIdx_cons, List.foldl_cons]
    have : (List.map Lf.enc L).toArray.setIfInBounds (off + k) l.enc = (List.map Lf.enc (L.set (off + k) l)).toArray := by
      simp [List.map_set]
    rw [this, foldSet off r (k + 1) _ (by simp at h ⊢; omega), show off + (k + 1) = off + k + 1 by omega, set_splice _ _ _ _ (by simpa using h)]
theorem fill_ok {place : Nat → Option (Nat × Nat)} : ∀ {vs : List (Nat × V1)} {ls ls' : List Lf}, fillL place ls vs = some ls' →
    Instr.fill place (ls.map Lf.enc).toArray (vs.map fun x => (x.1, x.2.enc)) = some (ls'.map Lf.enc).toArray
  | [], ls, ls', h => by simp [fillL] at h; subst h; rfl
  | (i, v) :: r, ls, ls', h => by
    simp only [fillL] at h
    split at h
    · cases h
    · rename_i off size hp
      split at h
      · rename_i hb
        simp only [Bool.and_eq_true, Nat.beq_eq, Nat.ble_eq] at hb
        simp only [List.map_cons, Instr.fill, hp, V1.cells]
        rw [if_neg (by simp [hb.1]; omega)]
        have := foldSet off v.lfs 0 ls (by omega)
        simp only [Nat.add_zero] at this
        rw [← fill_ok h, ← this]
        simp
      · cases h
theorem info_run {t : TypeId} (h : (P.info? t).isSome = true) (w : World) : (sizeOf t).run P w = .ok (P.cellsOf t) w := by
  unfold sizeOf typeInfo Program.cellsOf
  cases hi : P.info? t with
  | none => simp [hi] at h
  | some i => simp [hi]
theorem zero_run {t : TypeId} {ls : List Lf} (h : zeroLs P t = some ls) (w : World) : ∃ v : Value, (zeroValue t).run P w = .ok v w ∧ v.cells = (ls.map Lf.enc).toArray := by
  unfold zeroLs at h
  split at h
  · rename_i i hi
    split at h
    · rename_i z hz
      split at h
      · rename_i v hv
        cases h
        refine ⟨z, by simp [zeroValue, typeInfo, hi, hz], ?_⟩
        rw [← constV_ok hv, V1.cells]
      · cases h
    · cases h
  · cases h
theorem places_run (w : World) : ∀ (fs : List Field), (fs.all fun f => (P.info? f.type).isSome) = true →
    (fs.mapM (m := Sem) fun f => do pure (f.offset, ← sizeOf f.type)).run P w = .ok (fs.map fun f => (f.offset, P.cellsOf f.type)) w
  | [], _ => by simp
  | f :: fs, h => by
    simp only [List.all_cons, Bool.and_eq_true] at h
    simp only [List.mapM_cons, Sem.run_bind, info_run h.1, Result.andThen_ok, Sem.run_pure, places_run w fs h.2, List.map_cons]
theorem build_ok {t : TypeId} {z ls : List Lf} {vs : List (Nat × V1)} (hz : zeroLs P t = some z) (hi : infoOk P t = true) (hf : fillL (placeOf P t) z vs = some ls) (w : World) :
    (Instr.build t (vs.map fun x => (x.1, x.2.enc)).toArray).run P w = .ok (.agg (ls.map Lf.enc).toArray) w := by
  obtain ⟨v, hv, hc⟩ := zero_run hz w
  unfold Instr.build
  simp only [Sem.run_bind, hv, Result.andThen_ok]
  unfold infoOk at hi
  unfold placeOf at hf
  have hfill := fill_ok hf
  split at hi
  · rename_i fs hu
    obtain ⟨fl, rfl⟩ : ∃ fl : List Field, fs = fl.toArray := ⟨fs.toList, by simp⟩
    simp only [hu] at hfill
    simp only [run_underlying hu, Result.andThen_ok, Sem.run_bind, List.mapM_toArray, Sem.run_map, places_run w _ hi, hc]
    have e : (fun i : Nat => ((List.map (fun f : Field => (f.offset, P.cellsOf f.type)) fl).toArray)[i]?) = plStruct P fl.toArray := by
      funext i
      simp only [plStruct, List.getElem?_toArray, List.getElem?_map]
      cases fl[i]? <;> rfl
    rw [e, hfill]
    simp
  · rename_i n el hu
    simp only [hu] at hfill
    simp only [run_underlying hu, Result.andThen_ok, Sem.run_bind, info_run hi, hc]
    simp [hfill]
  · cases hi

theorem field_run {t : TypeId} {i : Nat} {f : Field} (h : fieldOf P t i = some f) : ∃ fs, P.underlying t = some (.struct fs) ∧ fs[i]? = some f := by
  unfold fieldOf at h
  split at h
  · rename_i fs hu; exact ⟨fs, hu, h⟩
  · cases h
theorem cells_info {t : TypeId} (h : P.cellsOf t ≠ 0) (w : World) : (sizeOf t).run P w = .ok (P.cellsOf t) w := by
  refine info_run ?_ w
  unfold Program.cellsOf at h
  cases hi : P.info? t with
  | none => simp [hi] at h
  | some i => rfl
theorem under_info {t : TypeId} {d : TypeDesc} (h : P.underlying t = some d) : (P.info? t).isSome = true := by
  cases hi : P.info? t with
  | none => simp [Program.underlying, hi] at h
  | some i => rfl
theorem foldMM_ok {mx : Bool} {k : IntKind} : ∀ {vs : List V1} {a : Int} {v : TV} (_ : foldMM mx k a vs = some v) (w : World),
    (List.foldlM (m := Sem) (if mx then Builtin.max2 else Builtin.min2) (.int k a) (vs.map V1.enc)).run P w = .ok v.enc w
  | [], a, v, h, w => by simp only [foldMM, intV, Option.some.injEq] at h; subst h; simp [TV.enc, V1.enc, Lf.enc]
  | .lf (.int k' b) :: r, a, v, h, w => by
    simp only [foldMM] at h
    split at h
    · rename_i hk
      have := isK_ok hk
      subst this
      cases mx
      · simp only [Bool.false_eq_true, if_false, List.map_cons, List.foldlM_cons, V1.enc, Lf.enc, Builtin.min2, Sem.run_bind, Sem.run_pure, Result.andThen_ok]
        exact foldMM_ok (mx := false) h w
      · simp only [if_true, List.map_cons, List.foldlM_cons, V1.enc, Lf.enc, Builtin.max2, Sem.run_bind, Sem.run_pure, Result.andThen_ok]
        exact foldMM_ok (mx := true) h w
    · cases h
  | .lf (.bool _) :: _, _, _, h, _ => by simp [foldMM] at h
  | .lf (.ptr _) :: _, _, _, h, _ => by simp [foldMM] at h
  | .lf (.sl _) :: _, _, _, h, _ => by simp [foldMM] at h
  | .lf (.str _) :: _, _, _, h, _ => by simp [foldMM] at h
  | .lf (.fn _) :: _, _, _, h, _ => by simp [foldMM] at h
  | .agg _ :: _, _, _, h, _ => by simp [foldMM] at h
theorem innates_ok {b : Builtin} {vs : List V1} {ts : Array TypeId} {v : TV} (h : builtinV b vs = some v) (hb : builtinOk P b ts vs = true) (t : TypeId) (cs : Array Bool) (w : World) :
    (builtin b ts t cs (vs.map V1.enc).toArray).run P w = .ok (.value v.enc) w := by
  unfold builtinV at h
  split at h
  · rename_i x
    split at h
    · rename_i n hn
      simp only [intV, Option.some.injEq] at h
      subst h
      simp only [builtinOk] at hb
      split at hb
      · rename_i t0 s ht0 hx
        cases hx
        cases hn
        split at hb
        · rename_i u hu
          obtain ⟨x, c, hx, _⟩ := s.enc_len
          simp [builtin, Builtin.len_, ht0, V1.enc, Lf.enc, hx, run_underlying hu, TV.enc, goInt]
        · cases hb
      · rename_i t0 s ht0 hx
        cases hx
        cases hn
        split at hb
        · rename_i hu
          simp [builtin, Builtin.len_, ht0, V1.enc, Lf.enc, run_underlying hu, TV.enc, goInt]
        · cases hb
      · cases hb
    · cases h
  · rename_i s
    simp only [intV, Option.some.injEq] at h
    subst h
    simp only [builtinOk] at hb
    split at hb
    · rename_i t0 s ht0 hx
      cases hx
      split at hb
      · rename_i u hu
        obtain ⟨x, c, hx, _, hcp, _⟩ := s.enc_len
        simp [builtin, Builtin.cap_, ht0, V1.enc, Lf.enc, hx, hcp, run_underlying hu, TV.enc, goInt]
      · cases hb
    · rename_i hx; cases hx
    · cases hb
  · rename_i k a r
    simp only [builtin, Builtin.max_, List.map_cons, V1.enc, Lf.enc]
    have := foldMM_ok (P := P) h w
    simp only [if_true] at this
    simp [this]
  · rename_i k a r
    simp only [builtin, Builtin.min_, List.map_cons, V1.enc, Lf.enc]
    have := foldMM_ok (P := P) h w
    simp only [Bool.false_eq_true, if_false] at this
    simp [this]
  · cases h

section
variable {e : Env} {a : Act} {c : Ctx}
theorem arr_map {α β : Type} (xs : Array α) (f : α → β) : xs.map f = (xs.toList.map f).toArray := by
  exact (Array.toArray_toList (xs := xs.map f)).symm.trans (congrArg List.toArray Array.toList_map)
theorem unV_ok {op : UnOp} {x : V1} {v : TV} (h : unV op x = some v) (w : World) : (Op.unary op x.enc).run P w = .ok v.enc w := by
  unfold unV at h
  split at h
  · cases op <;> simp only [boolV, Option.some.injEq, reduceCtorEq] at h
    subst h
    simp [V1.enc, Lf.enc, Op.unary, TV.enc]
  · cases op <;> simp only [intV, Option.some.injEq, reduceCtorEq] at h
    subst h
    simp [V1.enc, Lf.enc, Op.unary, Op.intArith, TV.enc]
  · cases h
theorem fieldAt_ok {t : TypeId} {i : Nat} {f : Field} (hf : fieldOf P t i = some f) (hz : P.cellsOf f.type ≠ 0) (p : Pt) (w : World) :
    (Instr.fieldAt t (.pointer (some p.addr)) i).run P w = .ok (.pointer (some ⟨p.b, p.o + f.offset, none⟩)) w := by
  obtain ⟨fs, hu, hi⟩ := field_run hf
  unfold Instr.fieldAt
  simp only [Sem.run_bind, run_underlying hu, Result.andThen_ok, hi]
  simp only [Instr.sureAddr, Sem.run_bind, Sem.run_pure, Result.andThen_ok, fieldPlace, cells_info hz, Sem.run_ite, if_neg hz, Addr.add]
  split
  · rename_i h0; simp [h0]
  · rfl
theorem leafOf_run {t : TypeId} {ls : List Lf} {off : Nat} {v : V1} (h : partV P t ls off = some v) {d : TypeDesc} (hd : P.underlying t = some d) (w : World) :
    (part t (ls.map Lf.enc).toArray off).run P w = .ok v.enc w := by
  unfold partV at h
  unfold part
  simp only [Sem.run_bind, isAgg_run P t hd, Result.andThen_ok, Sem.run_ite]
  split at h
  · rename_i hg
    cases h
    simp only [hg, if_true, sizeOf_run hd, Result.andThen_ok, Sem.run_pure]
    simp [V1.enc, List.map_take, List.map_drop]
  · rename_i hg
    simp only [hg, Bool.false_eq_true, if_false]
    split at h
    · rename_i l hl
      cases h
      simp [hl, V1.enc]
    · cases h
theorem pickB (b p q : Bool) : (if b then Value.bool p else Value.bool q) = Value.bool (cond b p q) := by cases b <;> rfl
theorem ctx_pick (hA : Agr e a) (hc : Holds c a) {cn : Operand} {b : Bool} (h : evG e c cn = some (.one (.lf (.bool b)))) : Holds (match isTmp cn with | true => (slotOf cn, b) :: c | false => c) a := by
  cases cn with
  | tmp t =>
    simp only [isTmp, slotOf]
    refine holds_cons hc ?_
    have := evG_ok hA hc h
    simp only [Act.eval, TV.enc, V1.enc, Lf.enc] at this
    have h2 : a.tmps.getD t undef = .bool b := this
    rw [Array.getD_eq_getD_getElem?] at h2
    cases hh : a.tmps[t]? with
    | none => rw [hh] at h2; simp [undef] at h2
    | some z => rw [hh] at h2; simp at h2; rw [h2]
  | const v => exact hc
  | global g => exact hc
  | func f => exact hc
theorem pureV_ok (hA : Agr e a) (hc : Holds c a) {o : Oper} {v : TV} (h : pureV P e c o = some v) (w : World) : (execOp a.eval o).run P w = .ok (.value v.enc) w := by
  unfold pureV at h
  split at h
  · rename_i x ho
    simp only [execOp, ho, Sem.run_pure]
    rw [evG_ok hA hc h]
  · rename_i x ho
    simp only [execOp, ho, Sem.run_pure]
    rw [evG_ok hA hc h]
  · -- pick
    rename_i cn x y ho
    simp only [execOp, ho]
    split at h
    · rename_i b hb
      rw [evG_ok hA hc hb]
      simp only [TV.enc, V1.enc, Lf.enc, asBool, Sem.run_bind, Sem.run_pure, Result.andThen_ok]
      have hctx := ctx_pick hA hc hb
      split at h
      · rename_i p q hp hq
        simp only [boolV, Option.some.injEq] at h
        subst h
        cases b with
        | true => simp only [if_true]; rw [evG_ok hA hctx hp]; rfl
        | false => simp only [Bool.false_eq_true, if_false]; rw [evG_ok hA hctx hq]; rfl
      · cases b with
        | true => simp only [if_true]; rw [evG_ok hA hctx h]; rfl
        | false => simp only [Bool.false_eq_true, if_false]; rw [evG_ok hA hctx h]; rfl
    · cases h
  · -- build
    rename_i t ps ho
    simp only [execOp, ho]
    split at h
    · rename_i z vs hz hv
      split at h
      · rename_i hi
        split at h
        · rename_i ls hl
          cases h
          have e1 := evParts_ok hA hc hv
          have e2 : ps.map (fun x : Nat × Operand => (x.1, a.eval x.2)) = (vs.map fun x => (x.1, x.2.enc)).toArray := by
            rw [← e1]; exact arr_map _ _
          have := build_ok hz hi hl w
          rw [← e2] at this
          rw [Sem.run_bind, this]
          rfl
        · cases h
      · cases h
    · cases h
  · -- binOp
    rename_i op t x y u ho
    simp only [execOp, ho]
    split at h
    · rename_i p q hp hq
      rw [evG_ok hA hc hp, evG_ok hA hc hq]
      have := binV_ok (P := P) h x y w
      simp only [TV.enc] at this ⊢
      rw [Sem.run_bind, this]
      rfl
    · cases h
  · -- unOp
    rename_i op t x ho
    simp only [execOp, ho]
    split at h
    · rename_i p hp
      rw [evG_ok hA hc hp]
      simp only [TV.enc]
      rw [Sem.run_bind, unV_ok h]
      rfl
    · cases h
  · -- convert
    rename_i src dst x ho
    simp only [execOp, ho]
    split at h
    · rename_i k n hp
      rw [evG_ok hA hc hp]
      split at h
      · rename_i k1 k2 hs hd
        simp only [intV, Option.some.injEq] at h
        subst h
        simp [TV.enc, V1.enc, Lf.enc, convert, run_underlying hs, run_underlying hd, Conv.intToInt]
      · cases h
    · cases h
  · -- makeFunc
    rename_i fn first cap ho
    simp only [execOp, ho]
    split at h
    · rename_i p q hp hq
      cases h
      have e1 : first.map a.eval = (p.map V1.enc).toArray := by rw [← evs_ok hA hc hp]; exact arr_map _ _
      have e2 : cap.map a.eval = (q.map V1.enc).toArray := by rw [← evs_ok hA hc hq]; exact arr_map _ _
      simp [Instr.makeFunc, e1, e2, TV.enc, V1.enc, Lf.enc, Fv.enc]
    · cases h
  · -- fieldAddr
    rename_i t x i ho
    simp only [execOp, ho]
    split at h
    · rename_i p f hp hf
      rw [evG_ok hA hc hp]
      split at h
      · cases h
      · rename_i hz
        cases h
        have hz' : P.cellsOf f.type ≠ 0 := fun z => by rw [z] at hz; cases hz
        simp only [TV.enc, V1.enc, Lf.enc, Option.map_some]
        rw [Sem.run_bind, fieldAt_ok hf hz' p w]
        rfl
    · cases h
  · -- field
    rename_i t x i ho
    simp only [execOp, ho]
    split at h
    · rename_i ls f hp hf
      rw [evG_ok hA hc hp]
      split at h
      · rename_i hle
        obtain ⟨fs, hu, hi⟩ := field_run hf
        unfold toTV at h
        split at h
        · rename_i u hv
          cases h
          obtain ⟨d, hd⟩ := Option.isSome_iff_exists.1 hle
          simp only [TV.enc]
          rw [Sem.run_bind, V1.enc, Instr.field]
          simp only [Sem.run_bind, run_underlying hu, Result.andThen_ok, hi, asAgg, Sem.run_pure, leafOf_run hv hd]
        · cases h
      · cases h
    · cases h
  · -- index
    rename_i t x k n ho
    simp only [execOp, ho]
    split at h
    · rename_i ls len el hp hu
      rw [evG_ok hA hc hp]
      split at h
      · rename_i hd hel
        have hd := of_decide_eq_true hd
        unfold toTV at h
        split at h
        · rename_i u hv
          cases h
          obtain ⟨d, hdd⟩ := Option.isSome_iff_exists.1 hel
          simp only [TV.enc]
          rw [Sem.run_bind, V1.enc, Instr.index]
          simp only [Act.eval, asIntOf, Sem.run_bind, Sem.run_pure, Result.andThen_ok, run_underlying hu]
          simp [hd, sizeOf_run hdd, leafOf_run hv hdd]
        · cases h
      · cases h
    · cases h
  · -- extract
    rename_i x i ho
    simp only [execOp, ho]
    split at h
    · rename_i vs hp
      rw [evG_ok hA hc hp]
      unfold toTV at h
      split at h
      · rename_i u hv
        cases h
        simp [TV.enc, Instr.extract, hv]
      · cases h
    · cases h
  · -- builtins
    rename_i cl ho
    simp only [execOp, ho]
    split at h
    · rename_i b hb
      split at h
      · rename_i vs hvs
        split at h
        · rename_i hok
          have e1 : cl.args.map a.eval = (vs.map V1.enc).toArray := by rw [← evs_ok hA hc hvs]; exact arr_map _ _
          simp only [resolve, hb, e1, Sem.run_bind, Sem.run_pure, Result.andThen_ok, invoke]
          exact innates_ok h hok _ _ w
        · cases h
      · cases h
    · cases h
  · cases h
end
end Go.X
