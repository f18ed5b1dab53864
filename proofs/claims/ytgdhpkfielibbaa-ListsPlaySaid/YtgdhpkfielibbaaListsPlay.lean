/- 'Rows.ListsPlaySaid'. -/
import Derived.Test.YtgdhpkfielibbaaRows
import Derived.Test.YtgdhpkfielibbaaXy
import Derived.Test.YtgdhpkfielibbaaK
import Derived.Test.YtgdhpkfielibbaaBPlain
import Derived.Test.YtgdhpkfielibbaaBInts
import Derived.Test.YtgdhpkfielibbaaBLists
import Derived.Test.YtgdhpkfielibbaaBListsLaws
namespace Go.Proofs.Ytgdhpkfielibbaa.listsPlay
open Go.ChangeShapes Go.WideShapes Go.ChangeAt Go.RowKit Go.X
set_option linter.unusedVariables false
theorem own : ownKnob Try.prog.godebug = none := by kernel_rfl
theorem laidOut : laidOutB Try.prog = true := by kernel_rfl
theorem walk (s0 : Sl) (z0 : List (Ks.T K_i2b)) (n0 : Nrm s0) (l0 : s0.len = z0.length) (m0 : z0.length ≤ maxLen) (g0 : ∀ z ∈ z0, rowOk (Ks.mk K_i2b z)) (w : World) (h0 : SlRd w s0 3 (flat K_i2b z0)) :
    Calls Try.prog 6 #[(Lf.sl s0).enc] w fun e w' => e = .returned (.bool true) ∧ Below w.heap.size w w' := by
  have t := law_read (w := w) (ListsLaws.play_tri s0 z0) (readOk_rarr h0 l0)
  exact t
set_option maxRecDepth 100000 in
theorem lifted (os : Os) (started : os.Started) (H : Type) (enc : TypeId × Value → H) :
    ReturnsInHanded {} Try.checked os 6 .any (Rows.listsPlaySpec.pre6 enc Try.prog Try.f6 Rows.listsPlayRow.domain false) (Rows.listsPlaySpec.post enc Try.prog Try.f6 false true false false) := by
  refine returnsInHanded_of_change (C := Try.checked) own started (by kernel_rfl) Try.func6
    (ChangeSpec.witness6 (enc := enc) (C := Try.checked) false ⟨#[], #[.slice none 0 0], []⟩ 6 (by kernel_rfl) (by kernel_rfl) (by kernel_rfl) (by kernel_rfl)) ?_
  intro W base args ds gs before hval0 hW hcnd _
  have hval : ∀ (j : Nat) t v, Try.f6.params[j]? = some t → args[j]? = some v → Value.okWide Try.prog W .any base t v := hval0
  have hW' := hW
  obtain ⟨p, q, hA0, hV, rfl, hfz, hnd⟩ := hW
  have hA : DataW.TrodAll enc Try.prog W 0 (fun _ => true) true Try.f6.params.toList args.toList ds p := hA0
  rw [Try.params6] at hA hval
  obtain ⟨v0, vs0, d0, ds0, p0, q0, hargs, rfl, rfl, h0, r0⟩ := trodAll_cons hA
  obtain ⟨rfl, rfl, rfl⟩ := trodAll_nil r0
  obtain rfl : args = #[v0] := by cases args; simp_all
  obtain ⟨rfl, rfl⟩ := trodVars_none hV
  obtain ⟨s0, z0, rfl, n0, k0, l0, m0, g0⟩ := rows_rd 1 (ks := K_i2b) Try.underlying57 (ts := [3, 3, 4]) (by kernel_rfl) (by kernel_rfl) (by kernel_rfl) (by simp) (hval 0 57 v0 rfl rfl) h0
  clear hA0 hval0
  refine (walk s0 z0 n0 l0 m0 (fun z hz => rowOk_of (g0 z hz) (by simp [Ks.len])) W k0).mono fun e W' ⟨he, hg⟩ => ?_
  subst he
  have hlt0 : ∀ x ∈ p0, x.block < W.heap.size := fun x hx => by simpa using hW'.lt x (by simp [hx])
  exact ⟨_, rfl, post_of_below hW' (fun _ _ _ => trodAll_cons_mk (shut_bool Try.underlying4 _) trodAll_mk0)
    (trodAll_cons_mk (Below.trod laidOut (by kernel_rfl) (of_decide_eq_true (by kernel_rfl)) h0 hg hlt0) trodAll_mk0) rfl rfl hg⟩
theorem over : Rows.listsPlayRow.holds Try.pinned (OpenSpec.ofChange Rows.listsPlaySpec) :=
  OpenClaim.holds_of_wide 6 Try.f6 rfl rfl rfl rfl rfl rfl rfl ⟨rfl, rfl, rfl, rfl, rfl⟩ rfl rfl rfl rfl rfl (by kernel_rfl) Try.func6 (by kernel_rfl)
    (of_decide_eq_true (by kernel_rfl)) (by unfold Func.isWrapper; first | (rw [if_pos (by decide +kernel)]; kernel_rfl) | (rw [if_neg (by decide +kernel)]; exact ⟨rfl, rfl⟩))
    (fun os started H enc _ => lifted os started H enc)
theorem proved : Rows.ListsPlaySaid := over
#print axioms proved
end Go.Proofs.Ytgdhpkfielibbaa.listsPlay
