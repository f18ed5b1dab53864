/- Contracts and plain facts: TreeL. -/
import Derived.Test.YtbalnbakcbcicaaBPlain
import Derived.Test.YtbalnbakcbcicaaBTreeM
import Derived.Test.YtbalnbakcbcicaaBTreeN
import Derived.Test.YtbalnbakcbcicaaBTreeA
import Derived.Test.YtbalnbakcbcicaaBTreeB
import Derived.Test.YtbalnbakcbcicaaBTreeC
import Derived.Test.YtbalnbakcbcicaaBTreeD
import Derived.Test.YtbalnbakcbcicaaBTreeE
import Derived.Test.YtbalnbakcbcicaaBKeys
import Derived.Test.YtbalnbakcbcicaaBTreeF
import Derived.Test.YtbalnbakcbcicaaXw
import Derived.Test.YtbalnbakcbcicaaK
import Derived.Test.YtbalnbakcbcicaaF0
set_option linter.unusedVariables false
set_option linter.unusedSimpArgs false
set_option linter.unusedSectionVars false
namespace Go.X
open Go.Proofs
namespace TreeL
open _root_.Go.X.Tree TreeA TreeB TreeC TreeD TreeE TreeF
theorem tree_srt {w0 w : World} {S0 R0 : Nat → Prop} {F G : SP} {rm : Int} {t : Nat} {ks : List Key} (h : Own w0 S0 R0 w F) [tk : TakeK (TreeC.tree rm) t F ks G] : Srt ks ∧ ks.length ≤ 4096 := by
  obtain ⟨l, T, us, fr, a, s, s1, s2, hg, h⟩ := h.tree rm t
  exact ⟨hg.srt, hg.small.2.2.2⟩
theorem mem_put (ks : List Key) (k x : Key) : x ∈ putK ks k ↔ x = k ∨ x ∈ ks := by
  unfold putK
  have e := List.takeWhile_append_dropWhile (p := fun m => klt m k) (l := ks)
  have e2 : x ∈ ks ↔ x ∈ ks.takeWhile (fun m => klt m k) ∨ x ∈ ks.dropWhile (fun m => klt m k) := by
    rw [← List.mem_append, e]
  rw [e2, List.mem_append, List.mem_cons]
  exact ⟨fun h => h.elim (fun h => .inr (.inl h)) fun h => h.elim .inl fun h => .inr (.inr h), fun h => h.elim (fun h => .inr (.inl h)) fun h => h.elim .inl fun h => .inr (.inr h)⟩
theorem srt_ext : ∀ {a b : List Key}, Srt a → Srt b → (∀ x, x ∈ a ↔ x ∈ b) → a = b
  | [], [], _, _, _ => rfl
  | [], y :: b, _, _, h => by have := (h y).2 (by simp); cases this
  | x :: a, [], _, _, h => by have := (h x).1 (by simp); cases this
  | x :: a, y :: b, ha, hb, h => by
    have ha' := List.pairwise_cons.1 ha
    have hb' := List.pairwise_cons.1 hb
    have exy : x = y := by
      have h1 := (h x).1 (by simp)
      have h2 := (h y).2 (by simp)
      rw [List.mem_cons] at h1 h2
      rcases h1 with h1 | h1
      · exact h1
      · rcases h2 with h2 | h2
        · exact h2.symm
        · have := klt_asym (ha'.1 y h2)
          rw [hb'.1 x h1] at this; cases this
    subst exy
    have hnx : ∀ z : List Key, Srt (x :: z) → x ∉ z := fun z hz hx => by
      have := (List.pairwise_cons.1 hz).1 x hx
      rw [klt_irr] at this; cases this
    rw [srt_ext ha'.2 hb'.2 fun z => ?_]
    constructor
    · intro hz
      have := (h z).1 (by simp [hz])
      rw [List.mem_cons] at this
      rcases this with rfl | this
      · exact absurd hz (hnx _ ha)
      · exact this
    · intro hz
      have := (h z).2 (by simp [hz])
      rw [List.mem_cons] at this
      rcases this with rfl | this
      · exact absurd hz (hnx _ hb)
      · exact this
/-! ### A nil tree -/
end TreeL

end Go.X
