/- 'Rows.BbrTellsSaid'. -/
import Derived.Test.YteeabliibhedoaaRows
import Derived.Test.YteeabliibhedoaaXy
import Derived.Test.YteeabliibhedoaaK
import Derived.Test.YteeabliibhedoaaBPlain
import Derived.Test.YteeabliibhedoaaBArith
import Derived.Test.YteeabliibhedoaaBArithC
import Derived.Test.YteeabliibhedoaaBTarget
import Derived.Test.YteeabliibhedoaaBBbrM
import Derived.Test.YteeabliibhedoaaBBbrMm
import Derived.Test.YteeabliibhedoaaBBbrP
import Derived.Test.YteeabliibhedoaaBBbrW
import Derived.Test.YteeabliibhedoaaBBbrQ
import Derived.Test.YteeabliibhedoaaBBbrL
import Derived.Test.YteeabliibhedoaaBBbrN
import Derived.Test.YteeabliibhedoaaBBbrO
import Derived.Test.YteeabliibhedoaaBBbrU
import Derived.Test.YteeabliibhedoaaBBbrA
import Derived.Test.YteeabliibhedoaaBBbrF
import Derived.Test.YteeabliibhedoaaBBbrV
import Derived.Test.YteeabliibhedoaaBBbrX
import Derived.Test.YteeabliibhedoaaBBbrZ
import Derived.Test.YteeabliibhedoaaBBbrT
namespace Go.Proofs.Yteeabliibhedoaa.bbrTells
open Go.ChangeShapes Go.WideShapes Go.ChangeAt Go.RowKit Go.X
set_option linter.unusedVariables false
theorem own : ownKnob Try.prog.godebug = none := by kernel_rfl
theorem laidOut : laidOutB Try.prog = true := by kernel_rfl
theorem walk (a0 : Int) (w0 : (Lit.int .u64 a0).wf = true) (s1 : Sl) (z1 : List (Ks.T K_u8b)) (n1 : Nrm s1) (l1 : s1.len = z1.length) (m1 : z1.length ≤ maxLen) (g1 : ∀ z ∈ z1, rowOk (Ks.mk K_u8b z)) (s2 : Sl) (z2 : List (Ks.T [.int .u64])) (n2 : Nrm s2) (l2 : s2.len = z2.length) (m2 : z2.length ≤ maxLen) (g2 : ∀ z ∈ z2, rowOk (Ks.mk [.int .u64] z)) (a3 : Bool) (w : World) (h1 : SlRd w s1 9 (flat K_u8b z1)) (h2 : SlRd w s2 1 (flat [.int .u64] z2)) :
    Calls Try.prog 3 #[.int .u64 a0, (Lf.sl s1).enc, (Lf.sl s2).enc, .bool a3] w fun e w' => e = .returned (.bool true) ∧ Below w.heap.size w w' := by
  have t := law_read (w := w) (BbrT.tells_tri a0 s1 s2 z1 z2 a3 (fun z hz => BbrF.okS_of fun k n hl => g1 z hz _ hl) (fun z hz => BbrT.okU_of fun k n hl => g2 z hz _ hl)) (readOk_star (readOk_rarr h1 l1) (readOk_rarr h2 l2))
  exact t
set_option maxRecDepth 100000 in
theorem lifted (os : Os) (started : os.Started) (H : Type) (enc : TypeId × Value → H) :
    ReturnsInHanded {} Try.checked os 3 .any (Rows.bbrTellsSpec.pre6 enc Try.prog Try.f3 Rows.bbrTellsRow.domain false) (Rows.bbrTellsSpec.post enc Try.prog Try.f3 false true false false) := by
  refine returnsInHanded_of_change (C := Try.checked) own started (by kernel_rfl) Try.func3
    (ChangeSpec.witness6 (enc := enc) (C := Try.checked) false ⟨#[], #[.int .u64 0, .slice none 0 0, .slice none 0 0, .bool false], []⟩ 3 (by kernel_rfl) (by kernel_rfl) (by kernel_rfl) (by kernel_rfl)) ?_
  intro W base args ds gs before hval0 hW hcnd _
  have hval : ∀ (j : Nat) t v, Try.f3.params[j]? = some t → args[j]? = some v → Value.okWide Try.prog W .any base t v := hval0
  have hW' := hW
  obtain ⟨p, q, hA0, hV, rfl, hfz, hnd⟩ := hW
  have hA : DataW.TrodAll enc Try.prog W 0 (fun _ => true) true Try.f3.params.toList args.toList ds p := hA0
  rw [Try.params3] at hA hval
  obtain ⟨v0, vs0, d0, ds0, p0, q0, hargs, rfl, rfl, h0, r0⟩ := trodAll_cons hA
  obtain ⟨v1, vs1, d1, ds1, p1, q1, rfl, rfl, rfl, h1, r1⟩ := trodAll_cons r0
  obtain ⟨v2, vs2, d2, ds2, p2, q2, rfl, rfl, rfl, h2, r2⟩ := trodAll_cons r1
  obtain ⟨v3, vs3, d3, ds3, p3, q3, rfl, rfl, rfl, h3, r3⟩ := trodAll_cons r2
  obtain ⟨rfl, rfl, rfl⟩ := trodAll_nil r3
  obtain rfl : args = #[v0, v1, v2, v3] := by cases args; simp_all
  obtain ⟨rfl, rfl⟩ := trodVars_none hV
  obtain ⟨a0, rfl, rfl, rfl, w0⟩ := open_int Try.underlying22 (hval 0 22 v0 rfl rfl) h0
  obtain ⟨s1, z1, rfl, n1, k1, l1, m1, g1⟩ := rows_rd 1 (ks := K_u8b) Try.underlying23 (ts := [22, 22, 22, 22, 22, 22, 22, 22, 4]) (by kernel_rfl) (by kernel_rfl) (by kernel_rfl) (by simp) (hval 1 23 v1 rfl rfl) h1
  obtain ⟨s2, z2, rfl, n2, k2, l2, m2, g2⟩ := rows_rd 1 (ks := [.int .u64]) Try.underlying24 (ts := [22]) (by kernel_rfl) (by kernel_rfl) (by kernel_rfl) (by simp) (hval 2 24 v2 rfl rfl) h2
  obtain ⟨a3, rfl, rfl, rfl⟩ := open_bool Try.underlying4 (hval 3 4 v3 rfl rfl) h3
  clear hA0 hval0
  refine (walk a0 w0 s1 z1 n1 l1 m1 (fun z hz => rowOk_of (g1 z hz) (by simp [Ks.len])) s2 z2 n2 l2 m2 (fun z hz => rowOk_of (g2 z hz) (by simp [Ks.len])) a3 W k1 k2).mono fun e W' ⟨he, hg⟩ => ?_
  subst he
  have hlt1 : ∀ x ∈ p1, x.block < W.heap.size := fun x hx => by simpa using hW'.lt x (by simp [hx])
  have hlt2 : ∀ x ∈ p2, x.block < W.heap.size := fun x hx => by simpa using hW'.lt x (by simp [hx])
  exact ⟨_, rfl, post_of_below hW' (fun _ _ _ => trodAll_cons_mk (shut_bool Try.underlying4 _) trodAll_mk0)
    (trodAll_cons_mk (shut_int Try.underlying22 w0) (trodAll_cons_mk (Below.trod laidOut (by kernel_rfl) (of_decide_eq_true (by kernel_rfl)) h1 hg hlt1) (trodAll_cons_mk (Below.trod laidOut (by kernel_rfl) (of_decide_eq_true (by kernel_rfl)) h2 hg hlt2) (trodAll_cons_mk (shut_bool Try.underlying4 _) trodAll_mk0)))) rfl rfl hg⟩
theorem over : Rows.bbrTellsRow.holds Try.pinned (OpenSpec.ofChange Rows.bbrTellsSpec) :=
  OpenClaim.holds_of_wide 3 Try.f3 rfl rfl rfl rfl rfl rfl rfl ⟨rfl, rfl, rfl, rfl, rfl⟩ rfl rfl rfl rfl rfl (by kernel_rfl) Try.func3 (by kernel_rfl)
    (of_decide_eq_true (by kernel_rfl)) (by unfold Func.isWrapper; first | (rw [if_pos (by decide +kernel)]; kernel_rfl) | (rw [if_neg (by decide +kernel)]; exact ⟨rfl, rfl⟩))
    (fun os started H enc _ => lifted os started H enc)
theorem proved : Rows.BbrTellsSaid := over
#print axioms proved
end Go.Proofs.Yteeabliibhedoaa.bbrTells
