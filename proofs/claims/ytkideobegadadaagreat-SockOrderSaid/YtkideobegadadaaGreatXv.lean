/- From a contract of a law to its row. -/
import Derived.Test.YtkideobegadadaaGreatXu
import Derived.ProofKit
import Derived.OpenShut
import Derived.ChangeSlices
import Derived.Carry
namespace Go.X
open Go.ChangeShapes Go.WideShapes Go.ChangeAt Go.RowKit
section
variable {H : Type} {enc : TypeId × Value → H} {P : Program}
theorem post_of_below {f : Func} {s : ChangeSpec} {apart fresh handsOn : Bool} {W W' : World} {args : Array Value} {v : Value} {ds gs : List (DataW H)} {before pa pv : List MemPlace}
    (hW : DataW.Whole enc P f.params.toList s.vars apart W args.toList ds gs before)
    (hres : ∀ (b : Nat) (sp : Nat → Bool) (hd : Bool), DataW.TrodAll enc P W' b sp hd f.resultTypes.toList (v.resultList f.resultTypes.size) (s.fn H (ds ++ gs)).results [])
    (hargs : DataW.TrodAll enc P W' 0 (fun b => decide (b < W.heap.size)) true f.params.toList args.toList (s.fn H (ds ++ gs)).args pa)
    (hvars : DataW.TrodVars enc P W' (fun b => decide (b < W.heap.size)) s.vars (s.fn H (ds ++ gs)).vars pv)
    (hps : before = pa ++ pv) (hb : Below W.heap.size W W') : s.post enc P f apart fresh handsOn false W args v W' := by
  refine ⟨ds, gs, before, [], pa, pv, hW, hres _ _ _, hargs, hvars, World.keptBut_mono (fun p hp => ⟨hp, ?_⟩) (hb.frame (· ∈ before)), fun h => by cases h⟩
  rw [hps, List.mem_append] at hp
  exact Or.inr hp
theorem reads_of_cells {w : World} {b : Nat} : ∀ {ls : List Lf} {o : Nat}, (∀ i l, ls[i]? = some l → w.cell? ⟨b, o + i, none⟩ = some l.enc) → Reads w b o ls
  | [], _, _ => trivial
  | l :: ls, o, h => ⟨by have := h 0 l rfl; simpa using this, reads_of_cells fun i m hm => by
      have := h (i + 1) m (by simpa using hm)
      rwa [show o + (i + 1) = o + 1 + i by omega] at this⟩
theorem spot_none {t e : TypeId} {W : World} {r : Reach} {base : Nat} {a : Addr} {len cap : Nat} (ht : P.underlying t = some (.slice e)) (h : Value.okWide P W r base t (.slice (some a) len cap)) : a.spot = none := by
  simp only [Value.okWide, ht, Cell.okWide, Cell.ok] at h
  exact h.2.2.2.1
/-- A slice of numbers that came in may be read. -/
theorem ints_rd {W : World} {t e : TypeId} {k : IntKind} {v : Value} {d : DataW H} {p : List MemPlace} (ht : P.underlying t = some (.slice e)) (he : P.underlying e = some (.int k)) (hc : P.cellsOf e = 1) {r : Reach} {base : Nat}
    (hv : Value.okWide P W r base t v) (h : DataW.Trod enc P W 0 (fun _ => true) true t v d p) :
    ∃ (s : Sl) (zs : List Int), v = (Lf.sl s).enc ∧ SlRd W s 1 (flat [.int k] zs) ∧ s.len = zs.length ∧ zs.length ≤ 9223372036854775807 ∧ ∀ n ∈ zs, (Lit.int k n).wf = true := by
  obtain ⟨a0, len, cap, rfl⟩ := okWide_slice ht hv
  obtain ⟨fuel, hf⟩ := h
  rcases open_ints ht he hc hf with ⟨hcs, hx⟩ | ⟨a, len', cap', zs, hcs, _, hl, hm, hz, hx, hcell, hwz⟩
  · have hcs : Value.slice a0 len cap = .slice none 0 0 := by simpa [Value.cells] using hcs
    rw [hcs]
    exact ⟨⟨none, 0, 0⟩, [], rfl, ⟨rfl, fun _ => rfl, fun q hq => (by cases hq)⟩, rfl, by simp, fun n hn => (by cases hn)⟩
  · have hcs : Value.slice a0 len cap = .slice (some a) len' cap' := by simpa [Value.cells] using hcs
    rw [hcs] at hv ⊢
    have hsp := spot_none ht hv
    simp only [if_true] at hz
    have hfl : flat [.int k] (zs.take len') = (zs.take len').map (Lf.int k) := by
      generalize zs.take len' = l
      induction l with
      | nil => rfl
      | cons x l ih => simp only [flat, List.flatMap_cons, List.map_cons] at *; rw [ih]; rfl
    have htl : (zs.take len').length = len' := by rw [List.length_take]; omega
    refine ⟨⟨some ⟨a.block, a.off⟩, len', cap'⟩, zs.take len', ?_, ⟨?_, fun hh => (by cases hh), fun q hq => ?_⟩, htl.symm, ?_, fun n hn => hwz n (List.mem_of_mem_take hn)⟩
    · show Value.slice (some a) len' cap' = .slice (some ⟨a.block, a.off, none⟩) len' cap'
      cases a; simp at hsp; rw [hsp]
    · rw [hfl, List.length_map, htl]; simp
    · cases hq
      rw [hfl]
      refine reads_of_cells fun i l hi => ?_
      rw [List.getElem?_map] at hi
      obtain ⟨n, hn, rfl⟩ := Option.map_eq_some_iff.1 hi
      have hil : i < len' := by have := (List.getElem?_eq_some_iff.1 hn).1; omega
      have hz2 : zs[i]? = some n := by rw [List.getElem?_take, if_pos hil] at hn; exact hn
      have hc2 := hcell i (by omega)
      have e1 : a.add i = ⟨a.block, a.off + i, none⟩ := by
        cases a; simp at hsp; subst hsp; exact add_eq _ _ _
      rw [e1] at hc2
      rw [hc2, List.getD_eq_getElem?_getD, hz2]
      rfl
    · rw [htl]; unfold maxLen at hm; omega
end
end Go.X
