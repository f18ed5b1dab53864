/- Contracts and plain facts: U64s. -/
import Derived.Test.YtgdhpkfielibbaaBPlain
import Derived.Test.YtgdhpkfielibbaaXw
import Derived.Test.YtgdhpkfielibbaaK
import Derived.Test.YtgdhpkfielibbaaF0
set_option linter.unusedVariables false
set_option linter.unusedSimpArgs false
namespace Go.X
open Go.Proofs
namespace U64s
theorem u64_in_tri (s : Sl) (x : Ks.T KU) (xs : List (Ks.T KU)) (hl : xs.length ≤ 4294967296) :
    Tri Try.prog N_canterhelp_In_uint64 [.lf (.sl s), .lf (.int .u64 x)] [.lf .bool] (emp ^ rarr s KU xs) (fun r => pur ((r = true) ↔ x ∈ xs) emp) :=
  tri_0 (call_canterhelp_In_uint64 _ _) fun w S R h => by
    unfold W_canterhelp_In_uint64
    have hs := (h.drop.rd (s := s)).2
    skip
    refine w_loop (fun _ =>  rarr s KU xs) (fun (i : Int) => 0 ≤ i ∧ i.toNat ≤ xs.length ∧ (x ∈ xs ↔ x ∈ xs.drop i.toNat)) (fun (i : Int) => xs.length - i.toNat) h.fin ⟨Int.le_refl 0, Nat.zero_le _, Iff.rfl⟩ ?_
    rintro (i : Int) w ⟨h0, h1, h2⟩ h
    refine w_ite (fun c2 => ?_) fun c2 => ?_
    · have hi : i.toNat < xs.length := by simp at c2; omega
      refine w_idx h h0 hi ?_; refine w_ldE h s i.toNat (at_some hi) rfl ?_
      rw [List.drop_eq_getElem_cons hi, List.mem_cons] at h2
      refine w_ite (fun c3 => ?_) fun c3 => ?_
      · have c3 : xs[i.toNat] = x := by simpa [Prod.ext_iff] using c3
        exact Own.retP ⟨fun _ => h2.2 (.inl c3.symm), fun _ => rfl⟩ h.emp'
      · have c3 : ¬ xs[i.toNat] = x := by simpa [Prod.ext_iff] using c3
        have e : (i + 1).toNat = i.toNat + 1 := by omega
        rw [wi (by omega) (by omega)]
        exact ⟨⟨⟨by show (0 : Int) ≤ i + 1; omega, by show (i + 1).toNat ≤ _; omega, by show _ ↔ x ∈ xs.drop (i + 1).toNat; rw [e, h2]; exact ⟨fun h => h.elim (fun h => absurd h.symm c3) id, .inr⟩⟩, h.fin⟩, by show _ - (i + 1).toNat < _; omega⟩
    · have hi : i.toNat = xs.length := by simp at c2; omega
      rw [hi, List.drop_length] at h2
      exact Own.retP ⟨fun h => (by cases h), fun h => (by simp at h2; exact absurd h h2)⟩ h.emp'

end U64s

end Go.X
