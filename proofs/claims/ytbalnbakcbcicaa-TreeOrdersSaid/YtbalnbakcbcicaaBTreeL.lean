/- Contracts and plain facts: TreeL. -/
import Derived.Test.YtbalnbakcbcicaaBPlain
import Derived.Test.YtbalnbakcbcicaaBTreeM
import Derived.Test.YtbalnbakcbcicaaBTreeN
import Derived.Test.YtbalnbakcbcicaaBTreeA
import Derived.Test.YtbalnbakcbcicaaBTreeB
import Derived.Test.YtbalnbakcbcicaaBTreeC
import Derived.Test.YtbalnbakcbcicaaBTreeD
import Derived.Test.YtbalnbakcbcicaaBKeys
import Derived.Test.YtbalnbakcbcicaaBTreeF
import Derived.Test.YtbalnbakcbcicaaXw
import Derived.Test.YtbalnbakcbcicaaK
import Derived.Test.YtbalnbakcbcicaaF0
set_option linter.unusedVariables false
set_option linter.unusedSimpArgs false
set_option linter.unusedSectionVars false
namespace Go.X
open Go.Proofs
namespace TreeL
open _root_.Go.X.Tree TreeA TreeB TreeC TreeD TreeF
theorem tree_srt {w0 w : World} {S0 R0 : Nat → Prop} {F G : SP} {rm : Int} {t : Nat} {ks : List Key} (h : Own w0 S0 R0 w F) [tk : TakeK (TreeC.tree rm) t F ks G] : Srt ks ∧ ks.length ≤ 4096 := by
  obtain ⟨l, T, us, fr, a, s, s1, s2, hg, h⟩ := h.tree rm t
  exact ⟨hg.srt, hg.small.2.2.2⟩
theorem mem_put (ks : List Key) (k x : Key) : x ∈ putK ks k ↔ x = k ∨ x ∈ ks := by
  unfold putK
  have e := List.takeWhile_append_dropWhile (p := fun m => klt m k) (l := ks)
  have e2 : x ∈ ks ↔ x ∈ ks.takeWhile (fun m => klt m k) ∨ x ∈ ks.dropWhile (fun m => klt m k) := by
    rw [← List.mem_append, e]
  rw [e2, List.mem_append, List.mem_cons]
  exact ⟨fun h => h.elim (fun h => .inr (.inl h)) fun h => h.elim .inl fun h => .inr (.inr h), fun h => h.elim (fun h => .inr (.inl h)) fun h => h.elim .inl fun h => .inr (.inr h)⟩
theorem next_at {ks : List Key} {i : Nat} {k : Key} (hs : Srt ks) (hk : ks[i]? = some k) : nextF ks k = match ks[i + 1]? with | some m => (m, true) | none => ((0, 0), false) := by
  obtain ⟨hi, rfl⟩ := List.getElem?_eq_some_iff.1 hk
  have h1 : ∀ x ∈ ks.take (i + 1), klt ks[i] x = false := fun x hx => by
    obtain ⟨j, hj, rfl⟩ := List.mem_iff_getElem.1 hx
    rw [List.length_take] at hj
    rw [List.getElem_take]
    by_cases e : j = i
    · subst e; exact klt_irr _
    · exact klt_asym ((List.pairwise_iff_getElem.1 hs) j i (by omega) hi (by omega))
  have h2 : ks.find? (klt ks[i]) = (ks.drop (i + 1)).find? (klt ks[i]) := by
    have := find_mid (b := ks.drop (i + 1)) h1
    rwa [List.take_append_drop] at this
  unfold nextF
  rw [h2]
  cases hm : ks[i + 1]? with
  | none => rw [List.drop_eq_nil_of_le (List.getElem?_eq_none_iff.1 hm)]; rfl
  | some m =>
    obtain ⟨hi2, rfl⟩ := List.getElem?_eq_some_iff.1 hm
    rw [List.drop_eq_getElem_cons hi2, List.find?_cons_of_pos ((List.pairwise_iff_getElem.1 hs) i (i + 1) hi hi2 (by omega))]
theorem less_tri (a b : Key) : Tri Try.prog N_canterref04_Less [.agg (Ks.mk [.int .u64, .int .u64] a), .agg (Ks.mk [.int .u64, .int .u64] b)] [.lf .bool] emp (fun r => pur (r = klt a b) emp) :=
  tri_0 (call_canterref04_Less a b) fun w0 S R h => by
    unfold W_canterref04_Less
    refine w_new h fun n1 w h => w_new h fun n2 w h => w_ld h rfl (w_ld h rfl (w_ite (fun c => ?_) fun c => ?_))
    · have c : a.1 < b.1 := of_decide_eq_true c
      exact Own.retP (by simp [klt, c]) h.emp'
    have c : ¬ a.1 < b.1 := of_decide_eq_false c
    refine w_ld h rfl (w_ld h rfl (w_ite (fun c2 => ?_) fun c2 => ?_))
    · have c2 : a.1 = b.1 := by simpa using c2
      refine w_ld h rfl (w_ld h rfl ?_)
      exact Own.retP (by simp [klt, c2]) h.emp'
    · have c2 : a.1 ≠ b.1 := by simpa using c2
      exact Own.retP (by simp [klt, c, c2]) h.emp'
/-! ### A nil tree -/
end TreeL

end Go.X
