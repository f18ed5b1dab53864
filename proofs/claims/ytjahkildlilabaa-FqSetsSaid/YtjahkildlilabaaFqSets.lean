/- 'Rows.FqSetsSaid'. -/
import Derived.Test.YtjahkildlilabaaRows
import Derived.Test.YtjahkildlilabaaXy
import Derived.Test.YtjahkildlilabaaK
import Derived.Test.YtjahkildlilabaaBPlain
import Derived.Test.YtjahkildlilabaaBArith
import Derived.Test.YtjahkildlilabaaBArithC
import Derived.Test.YtjahkildlilabaaBInts
import Derived.Test.YtjahkildlilabaaBLists
import Derived.Test.YtjahkildlilabaaBTreeM
import Derived.Test.YtjahkildlilabaaBTreeN
import Derived.Test.YtjahkildlilabaaBTreeA
import Derived.Test.YtjahkildlilabaaBTreeB
import Derived.Test.YtjahkildlilabaaBTreeC
import Derived.Test.YtjahkildlilabaaBTreeD
import Derived.Test.YtjahkildlilabaaBTreeE
import Derived.Test.YtjahkildlilabaaBTreeF
import Derived.Test.YtjahkildlilabaaBFqM
import Derived.Test.YtjahkildlilabaaBFqC
import Derived.Test.YtjahkildlilabaaBFqD
import Derived.Test.YtjahkildlilabaaBFqE
import Derived.Test.YtjahkildlilabaaBFqG
import Derived.Test.YtjahkildlilabaaBFqH
import Derived.Test.YtjahkildlilabaaBFqI
import Derived.Test.YtjahkildlilabaaBFqJ
namespace Go.Proofs.Ytjahkildlilabaa.fqSets
open Go.ChangeShapes Go.WideShapes Go.ChangeAt Go.RowKit Go.X
set_option linter.unusedVariables false
theorem own : ownKnob Try.prog.godebug = none := by kernel_rfl
theorem laidOut : laidOutB Try.prog = true := by kernel_rfl
theorem walk (a0 : Int) (w0 : (Lit.int .i64 a0).wf = true) (a1 : Ks.T K_i4u2bi2) (g1 : rowOk (Ks.mk K_i4u2bi2 a1)) (a2 : Ks.T K_i4u2bi2) (g2 : rowOk (Ks.mk K_i4u2bi2 a2)) (w : World)  :
    Calls Try.prog 3 #[.int .i64 a0, (V1.agg (Ks.mk K_i4u2bi2 a1)).enc, (V1.agg (Ks.mk K_i4u2bi2 a2)).enc] w fun e w' => e = .returned (.bool true) ∧ Below w.heap.size w w' := by
  have t := law_read (w := w) (FqJ.sets_tri a0 a1 a2 (FqI.okC_of fun k n hl => g1 _ hl) (FqI.okC_of fun k n hl => g2 _ hl)) readOk_emp
  exact t
set_option maxRecDepth 100000 in
theorem lifted (os : Os) (started : os.Started) (H : Type) (enc : TypeId × Value → H) :
    ReturnsInHanded {} Try.checked os 3 .any (Rows.fqSetsSpec.pre6 enc Try.prog Try.f3 Rows.fqSetsRow.domain false) (Rows.fqSetsSpec.post enc Try.prog Try.f3 false true false false) := by
  refine returnsInHanded_of_change (C := Try.checked) own started (by kernel_rfl) Try.func3
    (ChangeSpec.witness6 (enc := enc) (C := Try.checked) false ⟨#[], #[.int .i64 0, (V1.agg [.int .i64 0, .int .i64 0, .int .i64 0, .int .i64 0, .int .u64 0, .int .u64 0, .bool false, .int .i64 0, .int .i64 0]).enc, (V1.agg [.int .i64 0, .int .i64 0, .int .i64 0, .int .i64 0, .int .u64 0, .int .u64 0, .bool false, .int .i64 0, .int .i64 0]).enc], []⟩ 3 (by kernel_rfl) (by kernel_rfl) (by kernel_rfl) (by kernel_rfl)) ?_
  intro W base args ds gs before hval0 hW hcnd _
  have hval : ∀ (j : Nat) t v, Try.f3.params[j]? = some t → args[j]? = some v → Value.okWide Try.prog W .any base t v := hval0
  have hW' := hW
  obtain ⟨p, q, hA0, hV, rfl, hfz, hnd⟩ := hW
  have hA : DataW.TrodAll enc Try.prog W 0 (fun _ => true) true Try.f3.params.toList args.toList ds p := hA0
  rw [Try.params3] at hA hval
  obtain ⟨v0, vs0, d0, ds0, p0, q0, hargs, rfl, rfl, h0, r0⟩ := trodAll_cons hA
  obtain ⟨v1, vs1, d1, ds1, p1, q1, rfl, rfl, rfl, h1, r1⟩ := trodAll_cons r0
  obtain ⟨v2, vs2, d2, ds2, p2, q2, rfl, rfl, rfl, h2, r2⟩ := trodAll_cons r1
  obtain ⟨rfl, rfl, rfl⟩ := trodAll_nil r2
  obtain rfl : args = #[v0, v1, v2] := by cases args; simp_all
  obtain ⟨rfl, rfl⟩ := trodVars_none hV
  obtain ⟨a0, rfl, rfl, rfl, w0⟩ := open_int Try.underlying3 (hval 0 3 v0 rfl rfl) h0
  obtain ⟨a1, rfl, g1⟩ := row_rd 1 (ks := K_i4u2bi2) (t := 24) (ts := [3, 3, 3, 3, 22, 22, 4, 3, 3]) (by kernel_rfl) (by kernel_rfl) (by kernel_rfl) (hval 1 24 v1 rfl rfl) h1
  obtain ⟨a2, rfl, g2⟩ := row_rd 1 (ks := K_i4u2bi2) (t := 24) (ts := [3, 3, 3, 3, 22, 22, 4, 3, 3]) (by kernel_rfl) (by kernel_rfl) (by kernel_rfl) (hval 2 24 v2 rfl rfl) h2
  clear hA0 hval0
  refine (walk a0 w0 a1 (rowOk_of g1 (by simp [Ks.len])) a2 (rowOk_of g2 (by simp [Ks.len])) W ).mono fun e W' ⟨he, hg⟩ => ?_
  subst he
  have hlt1 : ∀ x ∈ p1, x.block < W.heap.size := fun x hx => by simpa using hW'.lt x (by simp [hx])
  have hlt2 : ∀ x ∈ p2, x.block < W.heap.size := fun x hx => by simpa using hW'.lt x (by simp [hx])
  exact ⟨_, rfl, post_of_below hW' (fun _ _ _ => trodAll_cons_mk (shut_bool Try.underlying4 _) trodAll_mk0)
    (trodAll_cons_mk (shut_int Try.underlying3 w0) (trodAll_cons_mk (Below.trod laidOut (by kernel_rfl) (of_decide_eq_true (by kernel_rfl)) h1 hg hlt1) (trodAll_cons_mk (Below.trod laidOut (by kernel_rfl) (of_decide_eq_true (by kernel_rfl)) h2 hg hlt2) trodAll_mk0))) rfl rfl hg⟩
theorem over : Rows.fqSetsRow.holds Try.pinned (OpenSpec.ofChange Rows.fqSetsSpec) :=
  OpenClaim.holds_of_wide 3 Try.f3 rfl rfl rfl rfl rfl rfl rfl ⟨rfl, rfl, rfl, rfl, rfl⟩ rfl rfl rfl rfl rfl (by kernel_rfl) Try.func3 (by kernel_rfl)
    (of_decide_eq_true (by kernel_rfl)) (by unfold Func.isWrapper; first | (rw [if_pos (by decide +kernel)]; kernel_rfl) | (rw [if_neg (by decide +kernel)]; exact ⟨rfl, rfl⟩))
    (fun os started H enc _ => lifted os started H enc)
theorem proved : Rows.FqSetsSaid := over
#print axioms proved
end Go.Proofs.Ytjahkildlilabaa.fqSets
