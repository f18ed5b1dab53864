/- Contracts and plain facts: Ints. -/
import Derived.Test.YtjahkildlilabaaBPlain
import Derived.Test.YtjahkildlilabaaXw
import Derived.Test.YtjahkildlilabaaK
import Derived.Test.YtjahkildlilabaaF0
import Derived.Test.YtjahkildlilabaaF1
set_option linter.unusedVariables false
set_option linter.unusedSimpArgs false
set_option linter.unusedSectionVars false
namespace Go.X
open Go.Proofs
namespace Ints
theorem int_index_tri (s : Sl) (f : Fv) (C : SP) (xs : List (Ks.T KI)) (p : Ks.T KI → Bool) (hl : xs.length ≤ 4294967296) (hf : ∀ x ∈ xs, TriV Try.prog f [.lf (.int .i64 x)] [.lf .bool] C (fun r => pur (r = p x) C)) :
    Tri Try.prog N_slices_IndexFunc_sintint [.lf (.sl s), .lf (.fn f)] [.lf (.int .i64)] (C ^ rarr s KI xs) (fun r => pur (r = fI p xs) C) :=
  tri_0 (call_slices_IndexFunc_sintint _ _) fun w S R h => by
    unfold W_slices_IndexFunc_sintint
    have hsl := (h.rd (s := s)).2
    refine w_loop (fun _ => C ^ rarr s KI xs) (fun (y : Int) => 0 ≤ y ∧ y.toNat ≤ xs.length ∧ ∀ j y', j < y.toNat → xs[j]? = some y' → p y' = false) (fun (y : Int) => xs.length - y.toNat) h ⟨Int.le_refl 0, by simp, fun j _ hj => by simp at hj⟩ ?_
    rintro (y : Int) w ⟨h0, h1, h2⟩ h
    refine w_ite (fun c => ?_) fun c => ?_
    · have hy : y.toNat < xs.length := by simp at c; omega
      refine w_idx h h0 hy ?_
      refine w_ldA h s y.toNat 0 _ (at_some hy) rfl (by decide) (un_mk (ks := KI)) ?_
      refine w_callv (hf _ (List.getElem_mem hy)) h fun r w h => ?_
      obtain ⟨hr, h⟩ := h.purP
      have hw : IntKind.i64.wrap (y + 1) = y + 1 := wi (by omega) (by omega)
      refine w_ite (fun c => ?_) fun c => ?_
      · refine Own.retP ?_ h.fin
        rw [fI_at (at_some hy) (by rw [← hr]; exact c) h2]; exact (Int.toNat_of_nonneg h0).symm
      · rw [hw]
        refine ⟨⟨⟨(by show (0 : Int) ≤ y + 1; omega), (by show (y + 1).toNat ≤ _; omega), fun j y' hj hy' => ?_⟩, h⟩, (by show _ - (y + 1).toNat < _; omega)⟩
        have hj : j < (y + 1).toNat := hj
        by_cases hjy : j = y.toNat
        · subst hjy
          rw [at_some hy] at hy'
          cases hy'
          rw [← hr]; exact c
        · exact h2 j y' (by omega) hy'
    · refine Own.retP ?_ h.fin
      rw [fI_none]
      intro x hx
      obtain ⟨j, hj, rfl⟩ := List.mem_iff_getElem.1 hx
      refine h2 j _ ?_ (at_some hj)
      simp at c; omega
end Ints

end Go.X
