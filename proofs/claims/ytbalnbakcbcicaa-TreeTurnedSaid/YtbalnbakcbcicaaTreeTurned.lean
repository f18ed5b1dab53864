/- 'Rows.TreeTurnedSaid'. -/
import Derived.Test.YtbalnbakcbcicaaRows
import Derived.Test.YtbalnbakcbcicaaXy
import Derived.Test.YtbalnbakcbcicaaK
import Derived.Test.YtbalnbakcbcicaaBPlain
import Derived.Test.YtbalnbakcbcicaaBTreeM
import Derived.Test.YtbalnbakcbcicaaBTreeN
import Derived.Test.YtbalnbakcbcicaaBTreeA
import Derived.Test.YtbalnbakcbcicaaBTreeB
import Derived.Test.YtbalnbakcbcicaaBTreeC
import Derived.Test.YtbalnbakcbcicaaBTreeD
import Derived.Test.YtbalnbakcbcicaaBTreeE
import Derived.Test.YtbalnbakcbcicaaBKeys
import Derived.Test.YtbalnbakcbcicaaBTreeF
import Derived.Test.YtbalnbakcbcicaaBTreeL
import Derived.Test.YtbalnbakcbcicaaBTreeQ
import Derived.Test.YtbalnbakcbcicaaBTreeS
namespace Go.Proofs.Ytbalnbakcbcicaa.treeTurned
open Go.ChangeShapes Go.WideShapes Go.ChangeAt Go.RowKit Go.X
set_option linter.unusedVariables false
theorem own : ownKnob Try.prog.godebug = none := by kernel_rfl
theorem laidOut : laidOutB Try.prog = true := by kernel_rfl
theorem walk (s0 : Sl) (z0 : List (Ks.T [.int .u64, .int .u64])) (n0 : Nrm s0) (l0 : s0.len = z0.length) (c0 : s0.len ≤ s0.cap) (m0 : z0.length ≤ maxLen) (g0 : ∀ z ∈ z0, rowOk (Ks.mk [.int .u64, .int .u64] z)) (s1 : Sl) (z1 : List (Ks.T [.bool])) (n1 : Nrm s1) (l1 : s1.len = z1.length) (c1 : s1.len ≤ s1.cap) (m1 : z1.length ≤ maxLen) (g1 : ∀ z ∈ z1, rowOk (Ks.mk [.bool] z)) (w : World) (h0 : SlRd w s0 2 (flat [.int .u64, .int .u64] z0)) (h1 : SlRd w s1 1 (flat [.bool] z1)) :
    Calls Try.prog 6 #[(Lf.sl s0).enc, (Lf.sl s1).enc] w fun e w' => e = .returned (.bool true) ∧ Below w.heap.size w w' := by
  have t := law_read (w := w) (TreeS.turned_tri s0 s1 z0 z1 (by unfold maxLen at *; omega) (by unfold maxLen at *; omega)) (readOk_star (readOk_rarr h0 l0) (readOk_rarr h1 l1))
  exact t
set_option maxRecDepth 100000 in
theorem lifted (os : Os) (started : os.Started) (H : Type) (enc : TypeId × Value → H) :
    ReturnsInHanded {} Try.checked os 6 .any (Rows.treeTurnedSpec.pre6 enc Try.prog Try.f6 Rows.treeTurnedRow.domain false) (Rows.treeTurnedSpec.post enc Try.prog Try.f6 false true false false) := by
  refine returnsInHanded_of_change (C := Try.checked) own started (by kernel_rfl) Try.func6
    (ChangeSpec.witness6 (enc := enc) (C := Try.checked) false ⟨#[], #[.slice none 0 0, .slice none 0 0], []⟩ 6 (by kernel_rfl) (by kernel_rfl) (by kernel_rfl) (by kernel_rfl)) ?_
  intro W base args ds gs before hval0 hW hcnd _
  have hval : ∀ (j : Nat) t v, Try.f6.params[j]? = some t → args[j]? = some v → Value.okWide Try.prog W .any base t v := hval0
  have hW' := hW
  obtain ⟨p, q, hA0, hV, rfl, hfz, hnd⟩ := hW
  have hA : DataW.TrodAll enc Try.prog W 0 (fun _ => true) true Try.f6.params.toList args.toList ds p := hA0
  rw [Try.params6] at hA hval
  obtain ⟨v0, vs0, d0, ds0, p0, q0, hargs, rfl, rfl, h0, r0⟩ := trodAll_cons hA
  obtain ⟨v1, vs1, d1, ds1, p1, q1, rfl, rfl, rfl, h1, r1⟩ := trodAll_cons r0
  obtain ⟨rfl, rfl, rfl⟩ := trodAll_nil r1
  obtain rfl : args = #[v0, v1] := by cases args; simp_all
  obtain ⟨rfl, rfl⟩ := trodVars_none hV
  obtain ⟨s0, z0, rfl, n0, k0, l0, m0, g0⟩ := rows_rd 1 (ks := [.int .u64, .int .u64]) Try.underlying34 (ts := [22, 22]) (by kernel_rfl) (by kernel_rfl) (by kernel_rfl) (by simp) (hval 0 34 v0 rfl rfl) h0
  obtain ⟨s1, z1, rfl, n1, k1, l1, m1, g1⟩ := rows_rd 1 (ks := [.bool]) Try.underlying44 (ts := [4]) (by kernel_rfl) (by kernel_rfl) (by kernel_rfl) (by simp) (hval 1 44 v1 rfl rfl) h1
  have c0 := cap_rd Try.underlying34 n0 (hval 0 34 _ rfl rfl)
  have c1 := cap_rd Try.underlying44 n1 (hval 1 44 _ rfl rfl)
  clear hA0 hval0
  refine (walk s0 z0 n0 l0 c0 m0 (fun z hz => rowOk_of (g0 z hz) (by simp [Ks.len])) s1 z1 n1 l1 c1 m1 (fun z hz => rowOk_of (g1 z hz) (by simp [Ks.len])) W k0 k1).mono fun e W' ⟨he, hg⟩ => ?_
  subst he
  have hlt0 : ∀ x ∈ p0, x.block < W.heap.size := fun x hx => by simpa using hW'.lt x (by simp [hx])
  have hlt1 : ∀ x ∈ p1, x.block < W.heap.size := fun x hx => by simpa using hW'.lt x (by simp [hx])
  exact ⟨_, rfl, post_of_below hW' (fun _ _ _ => trodAll_cons_mk (shut_bool Try.underlying4 _) trodAll_mk0)
    (trodAll_cons_mk (Below.trod laidOut (by kernel_rfl) (of_decide_eq_true (by kernel_rfl)) h0 hg hlt0) (trodAll_cons_mk (Below.trod laidOut (by kernel_rfl) (of_decide_eq_true (by kernel_rfl)) h1 hg hlt1) trodAll_mk0)) rfl rfl hg⟩
theorem over : Rows.treeTurnedRow.holds Try.pinned (OpenSpec.ofChange Rows.treeTurnedSpec) :=
  OpenClaim.holds_of_wide 6 Try.f6 rfl rfl rfl rfl rfl rfl rfl ⟨rfl, rfl, rfl, rfl, rfl⟩ rfl rfl rfl rfl rfl (by kernel_rfl) Try.func6 (by kernel_rfl)
    (of_decide_eq_true (by kernel_rfl)) (by unfold Func.isWrapper; first | (rw [if_pos (by decide +kernel)]; kernel_rfl) | (rw [if_neg (by decide +kernel)]; exact ⟨rfl, rfl⟩))
    (fun os started H enc _ => lifted os started H enc)
theorem proved : Rows.TreeTurnedSaid := over
#print axioms proved
end Go.Proofs.Ytbalnbakcbcicaa.treeTurned
