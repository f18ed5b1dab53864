/- 'Rows.FqFairSaid'. -/
import Derived.Test.YtjahkildlilabaaRows
import Derived.Test.YtjahkildlilabaaXy
import Derived.Test.YtjahkildlilabaaK
import Derived.Test.YtjahkildlilabaaBPlain
import Derived.Test.YtjahkildlilabaaBArith
import Derived.Test.YtjahkildlilabaaBArithC
import Derived.Test.YtjahkildlilabaaBInts
import Derived.Test.YtjahkildlilabaaBLists
import Derived.Test.YtjahkildlilabaaBTreeM
import Derived.Test.YtjahkildlilabaaBTreeN
import Derived.Test.YtjahkildlilabaaBTreeA
import Derived.Test.YtjahkildlilabaaBTreeB
import Derived.Test.YtjahkildlilabaaBTreeC
import Derived.Test.YtjahkildlilabaaBTreeD
import Derived.Test.YtjahkildlilabaaBTreeE
import Derived.Test.YtjahkildlilabaaBTreeF
import Derived.Test.YtjahkildlilabaaBFqM
import Derived.Test.YtjahkildlilabaaBFqC
import Derived.Test.YtjahkildlilabaaBFqD
import Derived.Test.YtjahkildlilabaaBFqE
import Derived.Test.YtjahkildlilabaaBFqG
import Derived.Test.YtjahkildlilabaaBFqH
import Derived.Test.YtjahkildlilabaaBFqI
import Derived.Test.YtjahkildlilabaaBFqJ
import Derived.Test.YtjahkildlilabaaBFqK
import Derived.Test.YtjahkildlilabaaBFqN
import Derived.Test.YtjahkildlilabaaBFqQ
import Derived.Test.YtjahkildlilabaaBFqR
import Derived.Test.YtjahkildlilabaaBFqU
import Derived.Test.YtjahkildlilabaaBFqV
namespace Go.Proofs.Ytjahkildlilabaa.fqFair
open Go.ChangeShapes Go.WideShapes Go.ChangeAt Go.RowKit Go.X
set_option linter.unusedVariables false
theorem own : ownKnob Try.prog.godebug = none := by kernel_rfl
theorem laidOut : laidOutB Try.prog = true := by kernel_rfl
theorem walk (a0 : Ks.T K_i4u2bi2) (g0 : rowOk (Ks.mk K_i4u2bi2 a0)) (s1 : Sl) (z1 : List (Ks.T [.int .i64])) (n1 : Nrm s1) (l1 : s1.len = z1.length) (c1 : s1.len ≤ s1.cap) (m1 : z1.length ≤ maxLen) (g1 : ∀ z ∈ z1, rowOk (Ks.mk [.int .i64] z)) (s2 : Sl) (z2 : List (Ks.T [.int .i64])) (n2 : Nrm s2) (l2 : s2.len = z2.length) (c2 : s2.len ≤ s2.cap) (m2 : z2.length ≤ maxLen) (g2 : ∀ z ∈ z2, rowOk (Ks.mk [.int .i64] z)) (s3 : Sl) (z3 : List (Ks.T [.int .i64])) (n3 : Nrm s3) (l3 : s3.len = z3.length) (c3 : s3.len ≤ s3.cap) (m3 : z3.length ≤ maxLen) (g3 : ∀ z ∈ z3, rowOk (Ks.mk [.int .i64] z)) (a4 : Int) (w4 : (Lit.int .i64 a4).wf = true) (a5 : Int) (w5 : (Lit.int .i64 a5).wf = true) (w : World) (h1 : SlRd w s1 1 (flat [.int .i64] z1)) (h2 : SlRd w s2 1 (flat [.int .i64] z2)) (h3 : SlRd w s3 1 (flat [.int .i64] z3)) :
    Calls Try.prog 5 #[(V1.agg (Ks.mk K_i4u2bi2 a0)).enc, (Lf.sl s1).enc, (Lf.sl s2).enc, (Lf.sl s3).enc, .int .i64 a4, .int .i64 a5] w fun e w' => e = .returned (.bool true) ∧ Below w.heap.size w w' := by
  have t := law_read (w := w) (FqV.fair_tri a0 s1 s2 s3 z1 z2 z3 a4 a5 (FqI.okC_of fun k n hl => g0 _ hl)) (readOk_star (readOk_rarr h1 l1) (readOk_star (readOk_rarr h2 l2) (readOk_rarr h3 l3)))
  exact t
set_option maxRecDepth 100000 in
theorem lifted (os : Os) (started : os.Started) (H : Type) (enc : TypeId × Value → H) :
    ReturnsInHanded {} Try.checked os 5 .any (Rows.fqFairSpec.pre6 enc Try.prog Try.f5 Rows.fqFairRow.domain false) (Rows.fqFairSpec.post enc Try.prog Try.f5 false true false false) := by
  refine returnsInHanded_of_change (C := Try.checked) own started (by kernel_rfl) Try.func5
    (ChangeSpec.witness6 (enc := enc) (C := Try.checked) false ⟨#[], #[(V1.agg [.int .i64 0, .int .i64 0, .int .i64 0, .int .i64 0, .int .u64 0, .int .u64 0, .bool false, .int .i64 0, .int .i64 0]).enc, .slice none 0 0, .slice none 0 0, .slice none 0 0, .int .i64 0, .int .i64 0], []⟩ 5 (by kernel_rfl) (by kernel_rfl) (by kernel_rfl) (by kernel_rfl)) ?_
  intro W base args ds gs before hval0 hW hcnd _
  have hval : ∀ (j : Nat) t v, Try.f5.params[j]? = some t → args[j]? = some v → Value.okWide Try.prog W .any base t v := hval0
  have hW' := hW
  obtain ⟨p, q, hA0, hV, rfl, hfz, hnd⟩ := hW
  have hA : DataW.TrodAll enc Try.prog W 0 (fun _ => true) true Try.f5.params.toList args.toList ds p := hA0
  rw [Try.params5] at hA hval
  obtain ⟨v0, vs0, d0, ds0, p0, q0, hargs, rfl, rfl, h0, r0⟩ := trodAll_cons hA
  obtain ⟨v1, vs1, d1, ds1, p1, q1, rfl, rfl, rfl, h1, r1⟩ := trodAll_cons r0
  obtain ⟨v2, vs2, d2, ds2, p2, q2, rfl, rfl, rfl, h2, r2⟩ := trodAll_cons r1
  obtain ⟨v3, vs3, d3, ds3, p3, q3, rfl, rfl, rfl, h3, r3⟩ := trodAll_cons r2
  obtain ⟨v4, vs4, d4, ds4, p4, q4, rfl, rfl, rfl, h4, r4⟩ := trodAll_cons r3
  obtain ⟨v5, vs5, d5, ds5, p5, q5, rfl, rfl, rfl, h5, r5⟩ := trodAll_cons r4
  obtain ⟨rfl, rfl, rfl⟩ := trodAll_nil r5
  obtain rfl : args = #[v0, v1, v2, v3, v4, v5] := by cases args; simp_all
  obtain ⟨rfl, rfl⟩ := trodVars_none hV
  obtain ⟨a0, rfl, g0⟩ := row_rd 1 (ks := K_i4u2bi2) (t := 24) (ts := [3, 3, 3, 3, 22, 22, 4, 3, 3]) (by kernel_rfl) (by kernel_rfl) (by kernel_rfl) (hval 0 24 v0 rfl rfl) h0
  obtain ⟨s1, z1, rfl, n1, k1, l1, m1, g1⟩ := rows_rd 1 (ks := [.int .i64]) Try.underlying55 (ts := [3]) (by kernel_rfl) (by kernel_rfl) (by kernel_rfl) (by simp) (hval 1 55 v1 rfl rfl) h1
  obtain ⟨s2, z2, rfl, n2, k2, l2, m2, g2⟩ := rows_rd 1 (ks := [.int .i64]) Try.underlying55 (ts := [3]) (by kernel_rfl) (by kernel_rfl) (by kernel_rfl) (by simp) (hval 2 55 v2 rfl rfl) h2
  obtain ⟨s3, z3, rfl, n3, k3, l3, m3, g3⟩ := rows_rd 1 (ks := [.int .i64]) Try.underlying55 (ts := [3]) (by kernel_rfl) (by kernel_rfl) (by kernel_rfl) (by simp) (hval 3 55 v3 rfl rfl) h3
  obtain ⟨a4, rfl, rfl, rfl, w4⟩ := open_int Try.underlying3 (hval 4 3 v4 rfl rfl) h4
  obtain ⟨a5, rfl, rfl, rfl, w5⟩ := open_int Try.underlying3 (hval 5 3 v5 rfl rfl) h5
  have c1 := cap_rd Try.underlying55 n1 (hval 1 55 _ rfl rfl)
  have c2 := cap_rd Try.underlying55 n2 (hval 2 55 _ rfl rfl)
  have c3 := cap_rd Try.underlying55 n3 (hval 3 55 _ rfl rfl)
  clear hA0 hval0
  refine (walk a0 (rowOk_of g0 (by simp [Ks.len])) s1 z1 n1 l1 c1 m1 (fun z hz => rowOk_of (g1 z hz) (by simp [Ks.len])) s2 z2 n2 l2 c2 m2 (fun z hz => rowOk_of (g2 z hz) (by simp [Ks.len])) s3 z3 n3 l3 c3 m3 (fun z hz => rowOk_of (g3 z hz) (by simp [Ks.len])) a4 w4 a5 w5 W k1 k2 k3).mono fun e W' ⟨he, hg⟩ => ?_
  subst he
  have hlt0 : ∀ x ∈ p0, x.block < W.heap.size := fun x hx => by simpa using hW'.lt x (by simp [hx])
  have hlt1 : ∀ x ∈ p1, x.block < W.heap.size := fun x hx => by simpa using hW'.lt x (by simp [hx])
  have hlt2 : ∀ x ∈ p2, x.block < W.heap.size := fun x hx => by simpa using hW'.lt x (by simp [hx])
  have hlt3 : ∀ x ∈ p3, x.block < W.heap.size := fun x hx => by simpa using hW'.lt x (by simp [hx])
  exact ⟨_, rfl, post_of_below hW' (fun _ _ _ => trodAll_cons_mk (shut_bool Try.underlying4 _) trodAll_mk0)
    (trodAll_cons_mk (Below.trod laidOut (by kernel_rfl) (of_decide_eq_true (by kernel_rfl)) h0 hg hlt0) (trodAll_cons_mk (Below.trod laidOut (by kernel_rfl) (of_decide_eq_true (by kernel_rfl)) h1 hg hlt1) (trodAll_cons_mk (Below.trod laidOut (by kernel_rfl) (of_decide_eq_true (by kernel_rfl)) h2 hg hlt2) (trodAll_cons_mk (Below.trod laidOut (by kernel_rfl) (of_decide_eq_true (by kernel_rfl)) h3 hg hlt3) (trodAll_cons_mk (shut_int Try.underlying3 w4) (trodAll_cons_mk (shut_int Try.underlying3 w5) trodAll_mk0)))))) rfl rfl hg⟩
theorem over : Rows.fqFairRow.holds Try.pinned (OpenSpec.ofChange Rows.fqFairSpec) :=
  OpenClaim.holds_of_wide 5 Try.f5 rfl rfl rfl rfl rfl rfl rfl ⟨rfl, rfl, rfl, rfl, rfl⟩ rfl rfl rfl rfl rfl (by kernel_rfl) Try.func5 (by kernel_rfl)
    (of_decide_eq_true (by kernel_rfl)) (by unfold Func.isWrapper; first | (rw [if_pos (by decide +kernel)]; kernel_rfl) | (rw [if_neg (by decide +kernel)]; exact ⟨rfl, rfl⟩))
    (fun os started H enc _ => lifted os started H enc)
theorem proved : Rows.FqFairSaid := over
#print axioms proved
end Go.Proofs.Ytjahkildlilabaa.fqFair
