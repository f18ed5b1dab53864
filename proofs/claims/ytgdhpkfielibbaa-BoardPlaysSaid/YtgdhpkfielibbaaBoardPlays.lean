/- 'Rows.BoardPlaysSaid'. -/
import Derived.Test.YtgdhpkfielibbaaRows
import Derived.Test.YtgdhpkfielibbaaXy
import Derived.Test.YtgdhpkfielibbaaK
import Derived.Test.YtgdhpkfielibbaaBPlain
import Derived.Test.YtgdhpkfielibbaaBBoard
import Derived.Test.YtgdhpkfielibbaaBBoardLaws
import Derived.Test.YtgdhpkfielibbaaBRefBoard
import Derived.Test.YtgdhpkfielibbaaBRanges
import Derived.Test.YtgdhpkfielibbaaBBoardPlays
namespace Go.Proofs.Ytgdhpkfielibbaa.boardPlays
open Go.ChangeShapes Go.WideShapes Go.ChangeAt Go.RowKit Go.X
set_option linter.unusedVariables false
theorem own : ownKnob Try.prog.godebug = none := by kernel_rfl
theorem laidOut : laidOutB Try.prog = true := by kernel_rfl
theorem walk (s0 : Sl) (x0 : List (Ks.T K_i2u2su4b2 × List (Ks.T [.int .u64, .int .u64]))) (n0 : Nrm s0) (l0 : s0.len = x0.length) (m0 : x0.length ≤ maxLen) (g0 : ∀ p ∈ x0, rowOk (Ks.mk K_i2u2su4b2 p.1) ∧ p.2.length ≤ maxLen ∧ ∀ y ∈ p.2, rowOk (Ks.mk [.int .u64, .int .u64] y)) (w : World) (h0 : SlRd w s0 11 (flat K_i2u2su4b2 (x0.map Prod.fst))) (k0 : ∀ p ∈ x0, SlRd w ((fun z : Ks.T K_i2u2su4b2 => z.2.2.2.2.1) p.1) 2 (flat [.int .u64, .int .u64] p.2) ∧ ((fun z : Ks.T K_i2u2su4b2 => z.2.2.2.2.1) p.1).len = p.2.length) :
    Calls Try.prog 9 #[(Lf.sl s0).enc] w fun e w' => e = .returned (.bool true) ∧ Below w.heap.size w w' := by
  have t := law_read (w := w) (BoardPlays.plays_tri s0 x0) (readOk_star (readOk_rarr h0 (by rw [List.length_map]; exact l0)) (readOk_rl fun p hp => readOk_rarr (k0 p hp).1 (k0 p hp).2))
  exact t
set_option maxRecDepth 100000 in
theorem lifted (os : Os) (started : os.Started) (H : Type) (enc : TypeId × Value → H) :
    ReturnsInHanded {} Try.checked os 9 .any (Rows.boardPlaysSpec.pre6 enc Try.prog Try.f9 Rows.boardPlaysRow.domain false) (Rows.boardPlaysSpec.post enc Try.prog Try.f9 false true false false) := by
  refine returnsInHanded_of_change (C := Try.checked) own started (by kernel_rfl) Try.func9
    (ChangeSpec.witness6 (enc := enc) (C := Try.checked) false ⟨#[], #[.slice none 0 0], []⟩ 9 (by kernel_rfl) (by kernel_rfl) (by kernel_rfl) (by kernel_rfl)) ?_
  intro W base args ds gs before hval0 hW hcnd _
  have hval : ∀ (j : Nat) t v, Try.f9.params[j]? = some t → args[j]? = some v → Value.okWide Try.prog W .any base t v := hval0
  have hW' := hW
  obtain ⟨p, q, hA0, hV, rfl, hfz, hnd⟩ := hW
  have hA : DataW.TrodAll enc Try.prog W 0 (fun _ => true) true Try.f9.params.toList args.toList ds p := hA0
  rw [Try.params9] at hA hval
  obtain ⟨v0, vs0, d0, ds0, p0, q0, hargs, rfl, rfl, h0, r0⟩ := trodAll_cons hA
  obtain ⟨rfl, rfl, rfl⟩ := trodAll_nil r0
  obtain rfl : args = #[v0] := by cases args; simp_all
  obtain ⟨rfl, rfl⟩ := trodVars_none hV
  obtain ⟨s0, z0, rfl, n0, k0, l0, m0, g0⟩ := rows_rd 2 (ks := K_i2u2su4b2) Try.underlying68 (ts := [3, 3, 23, 23, 43, 23, 23, 23, 23, 4, 4]) (by kernel_rfl) (by kernel_rfl) (by kernel_rfl) (by simp) (hval 0 68 v0 rfl rfl) h0
  obtain ⟨x0, hx0, hp0⟩ := nest_rd (n := 0) (ks := K_i2u2su4b2) (ks' := [.int .u64, .int .u64]) (ts' := [23, 23]) 4 (fun z : Ks.T K_i2u2su4b2 => z.2.2.2.2.1) (fun _ => rfl) (u := 43) rfl Try.underlying43 (by kernel_rfl) (by kernel_rfl) (by kernel_rfl) (by simp) g0 (by simp)
  rw [← hx0] at k0 l0 m0
  rw [List.length_map] at l0 m0
  clear hA0 hval0
  refine (walk s0 x0 n0 l0 m0 (fun p hp => ⟨(hp0 p hp).1, (hp0 p hp).2.2.2.1, (hp0 p hp).2.2.2.2⟩) W k0 (fun p hp => ⟨(hp0 p hp).2.1, (hp0 p hp).2.2.1⟩)).mono fun e W' ⟨he, hg⟩ => ?_
  subst he
  have hlt0 : ∀ x ∈ p0, x.block < W.heap.size := fun x hx => by simpa using hW'.lt x (by simp [hx])
  exact ⟨_, rfl, post_of_below hW' (fun _ _ _ => trodAll_cons_mk (shut_bool Try.underlying4 _) trodAll_mk0)
    (trodAll_cons_mk (Below.trod laidOut (by kernel_rfl) (of_decide_eq_true (by kernel_rfl)) h0 hg hlt0) trodAll_mk0) rfl rfl hg⟩
theorem over : Rows.boardPlaysRow.holds Try.pinned (OpenSpec.ofChange Rows.boardPlaysSpec) :=
  OpenClaim.holds_of_wide 9 Try.f9 rfl rfl rfl rfl rfl rfl rfl ⟨rfl, rfl, rfl, rfl, rfl⟩ rfl rfl rfl rfl rfl (by kernel_rfl) Try.func9 (by kernel_rfl)
    (of_decide_eq_true (by kernel_rfl)) (by unfold Func.isWrapper; first | (rw [if_pos (by decide +kernel)]; kernel_rfl) | (rw [if_neg (by decide +kernel)]; exact ⟨rfl, rfl⟩))
    (fun os started H enc _ => lifted os started H enc)
theorem proved : Rows.BoardPlaysSaid := over
#print axioms proved
end Go.Proofs.Ytgdhpkfielibbaa.boardPlays
