/- 'Rows.TreeOrderSaid'. -/
import Derived.Test.YtbalnbakcbcicaaRows
import Derived.Test.YtbalnbakcbcicaaXy
import Derived.Test.YtbalnbakcbcicaaK
import Derived.Test.YtbalnbakcbcicaaBPlain
import Derived.Test.YtbalnbakcbcicaaBTreeM
import Derived.Test.YtbalnbakcbcicaaBTreeN
import Derived.Test.YtbalnbakcbcicaaBTreeA
import Derived.Test.YtbalnbakcbcicaaBTreeB
import Derived.Test.YtbalnbakcbcicaaBTreeC
import Derived.Test.YtbalnbakcbcicaaBTreeD
import Derived.Test.YtbalnbakcbcicaaBKeys
import Derived.Test.YtbalnbakcbcicaaBTreeF
import Derived.Test.YtbalnbakcbcicaaBTreeL
namespace Go.Proofs.Ytbalnbakcbcicaa.treeOrder
open Go.ChangeShapes Go.WideShapes Go.ChangeAt Go.RowKit Go.X
set_option linter.unusedVariables false
theorem own : ownKnob Try.prog.godebug = none := by kernel_rfl
theorem laidOut : laidOutB Try.prog = true := by kernel_rfl
theorem walk (a0 : Ks.T [.int .u64, .int .u64]) (g0 : rowOk (Ks.mk [.int .u64, .int .u64] a0)) (a1 : Ks.T [.int .u64, .int .u64]) (g1 : rowOk (Ks.mk [.int .u64, .int .u64] a1)) (w : World)  :
    Calls Try.prog 3 #[(V1.agg (Ks.mk [.int .u64, .int .u64] a0)).enc, (V1.agg (Ks.mk [.int .u64, .int .u64] a1)).enc] w fun e w' => e = .returned (.bool true) ∧ Below w.heap.size w w' := by
  have t := law_read (w := w) (TreeL.order_tri a0 a1) readOk_emp
  exact t
set_option maxRecDepth 100000 in
theorem lifted (os : Os) (started : os.Started) (H : Type) (enc : TypeId × Value → H) :
    ReturnsInHanded {} Try.checked os 3 .any (Rows.treeOrderSpec.pre6 enc Try.prog Try.f3 Rows.treeOrderRow.domain false) (Rows.treeOrderSpec.post enc Try.prog Try.f3 false true false false) := by
  refine returnsInHanded_of_change (C := Try.checked) own started (by kernel_rfl) Try.func3
    (ChangeSpec.witness6 (enc := enc) (C := Try.checked) false ⟨#[], #[(V1.agg [.int .u64 0, .int .u64 0]).enc, (V1.agg [.int .u64 0, .int .u64 0]).enc], []⟩ 3 (by kernel_rfl) (by kernel_rfl) (by kernel_rfl) (by kernel_rfl)) ?_
  intro W base args ds gs before hval0 hW hcnd _
  have hval : ∀ (j : Nat) t v, Try.f3.params[j]? = some t → args[j]? = some v → Value.okWide Try.prog W .any base t v := hval0
  have hW' := hW
  obtain ⟨p, q, hA0, hV, rfl, hfz, hnd⟩ := hW
  have hA : DataW.TrodAll enc Try.prog W 0 (fun _ => true) true Try.f3.params.toList args.toList ds p := hA0
  rw [Try.params3] at hA hval
  obtain ⟨v0, vs0, d0, ds0, p0, q0, hargs, rfl, rfl, h0, r0⟩ := trodAll_cons hA
  obtain ⟨v1, vs1, d1, ds1, p1, q1, rfl, rfl, rfl, h1, r1⟩ := trodAll_cons r0
  obtain ⟨rfl, rfl, rfl⟩ := trodAll_nil r1
  obtain rfl : args = #[v0, v1] := by cases args; simp_all
  obtain ⟨rfl, rfl⟩ := trodVars_none hV
  obtain ⟨a0, rfl, g0⟩ := row_rd 1 (ks := [.int .u64, .int .u64]) (t := 24) (ts := [22, 22]) (by kernel_rfl) (by kernel_rfl) (by kernel_rfl) (hval 0 24 v0 rfl rfl) h0
  obtain ⟨a1, rfl, g1⟩ := row_rd 1 (ks := [.int .u64, .int .u64]) (t := 24) (ts := [22, 22]) (by kernel_rfl) (by kernel_rfl) (by kernel_rfl) (hval 1 24 v1 rfl rfl) h1
  clear hA0 hval0
  refine (walk a0 (rowOk_of g0 (by simp [Ks.len])) a1 (rowOk_of g1 (by simp [Ks.len])) W ).mono fun e W' ⟨he, hg⟩ => ?_
  subst he
  have hlt0 : ∀ x ∈ p0, x.block < W.heap.size := fun x hx => by simpa using hW'.lt x (by simp [hx])
  have hlt1 : ∀ x ∈ p1, x.block < W.heap.size := fun x hx => by simpa using hW'.lt x (by simp [hx])
  exact ⟨_, rfl, post_of_below hW' (fun _ _ _ => trodAll_cons_mk (shut_bool Try.underlying4 _) trodAll_mk0)
    (trodAll_cons_mk (Below.trod laidOut (by kernel_rfl) (of_decide_eq_true (by kernel_rfl)) h0 hg hlt0) (trodAll_cons_mk (Below.trod laidOut (by kernel_rfl) (of_decide_eq_true (by kernel_rfl)) h1 hg hlt1) trodAll_mk0)) rfl rfl hg⟩
theorem over : Rows.treeOrderRow.holds Try.pinned (OpenSpec.ofChange Rows.treeOrderSpec) :=
  OpenClaim.holds_of_wide 3 Try.f3 rfl rfl rfl rfl rfl rfl rfl ⟨rfl, rfl, rfl, rfl, rfl⟩ rfl rfl rfl rfl rfl (by kernel_rfl) Try.func3 (by kernel_rfl)
    (of_decide_eq_true (by kernel_rfl)) (by unfold Func.isWrapper; first | (rw [if_pos (by decide +kernel)]; kernel_rfl) | (rw [if_neg (by decide +kernel)]; exact ⟨rfl, rfl⟩))
    (fun os started H enc _ => lifted os started H enc)
theorem proved : Rows.TreeOrderSaid := over
#print axioms proved
end Go.Proofs.Ytbalnbakcbcicaa.treeOrder
