/- 'Rows.TopDrainsSaid'. -/
import Derived.Test.YtaimlgfepkopkaaGreatRows
import Derived.Test.YtaimlgfepkopkaaGreatA2
import Derived.Test.YtaimlgfepkopkaaGreatK
import Derived.Test.YtaimlgfepkopkaaGreatB0
import Derived.Test.YtaimlgfepkopkaaGreatB1
import Derived.Test.YtaimlgfepkopkaaGreatB2
import Derived.Test.YtaimlgfepkopkaaGreatB3
import Derived.Test.YtaimlgfepkopkaaGreatB4
import Derived.Test.YtaimlgfepkopkaaGreatB5
import Derived.Test.YtaimlgfepkopkaaGreatB6
import Derived.Test.YtaimlgfepkopkaaGreatB7
import Derived.Test.YtaimlgfepkopkaaGreatB8
import Derived.Test.YtaimlgfepkopkaaGreatB9
namespace Go.Proofs.YtaimlgfepkopkaaGreat.topDrains
open Go.ChangeShapes Go.WideShapes Go.ChangeAt Go.RowKit Go.X
set_option linter.unusedVariables false
theorem own : ownKnob Tryz.prog.godebug = none := by kernel_rfl
theorem laidOut : laidOutB Tryz.prog = true := by kernel_rfl
theorem walk (a0 : Ks.T K_i4u2bi2) (g0 : rowOk (Ks.mk K_i4u2bi2 a0)) (s1 : Sl) (z1 : List (Ks.T [.int .i64])) (n1 : Nrm s1) (l1 : s1.len = z1.length) (c1 : s1.len ≤ s1.cap) (m1 : z1.length ≤ maxLen) (g1 : ∀ z ∈ z1, rowOk (Ks.mk [.int .i64] z)) (a2 : Int) (w2 : (Lit.int .i64 a2).wf = true) (w : World) (h1 : SlRd w s1 1 (flat [.int .i64] z1)) :
    Calls Tryz.prog 5 #[(V1.agg (Ks.mk K_i4u2bi2 a0)).enc, (Lf.sl s1).enc, .int .i64 a2] w fun e w' => e = .returned (.bool true) ∧ Below w.heap.size w w' := by
  have t := law_read (w := w) (EgZe.drains_tri a0 s1 z1 a2 (FqI.okC_of fun k n hl => g0 _ hl)) (readOk_rarr h1 l1)
  exact t
set_option maxRecDepth 100000 in
theorem lifted (os : Os) (started : os.Started) (H : Type) (enc : TypeId × Value → H) :
    ReturnsInHanded {} Tryz.checked os 5 .any (Rows.topDrainsSpec.pre6 enc Tryz.prog Tryz.f5 Rows.topDrainsRow.domain false) (Rows.topDrainsSpec.post enc Tryz.prog Tryz.f5 false true false false) := by
  refine returnsInHanded_of_change (C := Tryz.checked) own started (by kernel_rfl) Tryz.func5
    (ChangeSpec.witness6 (enc := enc) (C := Tryz.checked) false ⟨#[], #[(V1.agg [.int .i64 0, .int .i64 0, .int .i64 0, .int .i64 0, .int .u64 0, .int .u64 0, .bool false, .int .i64 0, .int .i64 0]).enc, .slice none 0 0, .int .i64 0], []⟩ 5 (by kernel_rfl) (by kernel_rfl) (by kernel_rfl) (by kernel_rfl)) ?_
  intro W base args ds gs before hval0 hW hcnd _
  have hval : ∀ (j : Nat) t v, Tryz.f5.params[j]? = some t → args[j]? = some v → Value.okWide Tryz.prog W .any base t v := hval0
  have hW' := hW
  obtain ⟨p, q, hA0, hV, rfl, hfz, hnd⟩ := hW
  have hA : DataW.TrodAll enc Tryz.prog W 0 (fun _ => true) true Tryz.f5.params.toList args.toList ds p := hA0
  rw [Tryz.params5] at hA hval
  obtain ⟨v0, vs0, d0, ds0, p0, q0, hargs, rfl, rfl, h0, r0⟩ := trodAll_cons hA
  obtain ⟨v1, vs1, d1, ds1, p1, q1, rfl, rfl, rfl, h1, r1⟩ := trodAll_cons r0
  obtain ⟨v2, vs2, d2, ds2, p2, q2, rfl, rfl, rfl, h2, r2⟩ := trodAll_cons r1
  obtain ⟨rfl, rfl, rfl⟩ := trodAll_nil r2
  obtain rfl : args = #[v0, v1, v2] := by cases args; simp_all
  obtain ⟨rfl, rfl⟩ := trodVars_none hV
  obtain ⟨a0, rfl, g0⟩ := row_rd 1 (ks := K_i4u2bi2) (t := 25) (ts := [3, 3, 3, 3, 23, 23, 4, 3, 3]) (by kernel_rfl) (by kernel_rfl) (by kernel_rfl) (hval 0 25 v0 rfl rfl) h0
  obtain ⟨s1, z1, rfl, n1, k1, l1, m1, g1⟩ := rows_rd 1 (ks := [.int .i64]) Tryz.underlying22 (ts := [3]) (by kernel_rfl) (by kernel_rfl) (by kernel_rfl) (by simp) (hval 1 22 v1 rfl rfl) h1
  obtain ⟨a2, rfl, rfl, rfl, w2⟩ := open_int Tryz.underlying3 (hval 2 3 v2 rfl rfl) h2
  have c1 := cap_rd Tryz.underlying22 n1 (hval 1 22 _ rfl rfl)
  clear hA0 hval0
  refine (walk a0 (rowOk_of g0 (by simp [Ks.len])) s1 z1 n1 l1 c1 m1 (fun z hz => rowOk_of (g1 z hz) (by simp [Ks.len])) a2 w2 W k1).mono fun e W' ⟨he, hg⟩ => ?_
  subst he
  have hlt0 : ∀ x ∈ p0, x.block < W.heap.size := fun x hx => by simpa using hW'.lt x (by simp [hx])
  have hlt1 : ∀ x ∈ p1, x.block < W.heap.size := fun x hx => by simpa using hW'.lt x (by simp [hx])
  exact ⟨_, rfl, post_of_below hW' (fun _ _ _ => trodAll_cons_mk (shut_bool Tryz.underlying4 _) trodAll_mk0)
    (trodAll_cons_mk (Below.trod laidOut (by kernel_rfl) (of_decide_eq_true (by kernel_rfl)) h0 hg hlt0) (trodAll_cons_mk (Below.trod laidOut (by kernel_rfl) (of_decide_eq_true (by kernel_rfl)) h1 hg hlt1) (trodAll_cons_mk (shut_int Tryz.underlying3 w2) trodAll_mk0))) rfl rfl hg⟩
theorem j0 : Rows.topDrainsRow.wf (OpenSpec.ofChange Rows.topDrainsSpec) = true := by kernel_rfl
theorem j2 : mapsRowed Tryz.prog = true := by kernel_rfl
theorem j3 : (Tryz.f5.params.all (Tryz.prog.readableRec ·) && (namedTie Tryz.prog Rows.topDrainsRow.named Rows.topDrainsSpec.vars && ((Rows.topDrainsRow.stops == []) && ((Tryz.prog.stops == []) && ((Rows.topDrainsRow.knobs == []) && (Tryz.prog.stopKnobs == [])))))) = true := by kernel_rfl
theorem j4 : (Rows.topDrainsRow.inPlace == Tryz.prog.inPlace 5) = true := by kernel_rfl
theorem j5 : (Rows.topDrainsRow.unfollowed == Tryz.prog.unfollowed 5) = true := by kernel_rfl
theorem j6 : (Rows.topDrainsRow.recurses == Tryz.prog.recurses 5) = true := by kernel_rfl
theorem j7 : (Rows.topDrainsRow.named == Tryz.prog.varsNamed 5) = true := by kernel_rfl
theorem j8 : ((Rows.topDrainsRow.maps == (Tryz.f5.params.toList ++ Rows.topDrainsSpec.plain.varTypes Tryz.prog).any (Tryz.prog.mapsRec ·)) && ((Rows.topDrainsRow.ifaces == (Tryz.f5.params.toList ++ Rows.topDrainsSpec.plain.varTypes Tryz.prog).any (Tryz.prog.ifacesRec ·)) && ((Rows.topDrainsRow.mapsOut == Tryz.prog.mapsAmong Tryz.f5.resultTypes.toList) && ((Rows.topDrainsRow.loops == (Tryz.f5.params.toList ++ Rows.topDrainsSpec.plain.varTypes Tryz.prog).any (Tryz.prog.loopsFrom ·)) && (Rows.topDrainsRow.wideKeys == (Tryz.f5.params.toList ++ Rows.topDrainsSpec.plain.varTypes Tryz.prog ++ Tryz.f5.resultTypes.toList).any (Tryz.prog.wideKeysFrom ·)))))) = true := by kernel_rfl
theorem j9 : (Rows.topDrainsSpec.vars.all (Tryz.prog.varReadable ·) && (Tryz.f5.resultTypes.all (fun t => Tryz.prog.readableRec t && decide (t < Tryz.prog.types.size)) && ((Rows.topDrainsRow.ifacesOut == Tryz.f5.resultTypes.toList.any (Tryz.prog.ifacesRec ·)) && ((Rows.topDrainsRow.loopsOut == Tryz.f5.resultTypes.toList.any (Tryz.prog.loopsFrom ·)) && ((Rows.topDrainsRow.plainKeys == Tryz.prog.plainKeys) && Rows.topDrainsRow.shortTexts.isNone))))) = true := by kernel_rfl
theorem j10 : Tryz.prog.stopsHeard = true := by kernel_rfl
theorem j11 : Tryz.prog.mayEnter = true := by kernel_rfl
theorem j12 : ((Rows.topDrainsRow.lifted == Tryz.prog.liftsFinal) && ((Tryz.prog.make == some Rows.topDrainsRow.make) && ((Rows.topDrainsRow.kinds == kindsOf Tryz.prog Tryz.f5 Rows.topDrainsRow) && (Rows.topDrainsRow.pinned == Rows.topDrainsRow.pinnedBy)))) = true := by kernel_rfl
theorem j13 : ((Rows.topDrainsRow.veiled == (Tryz.f5.params.toList ++ Rows.topDrainsSpec.plain.varTypes Tryz.prog ++ Tryz.f5.resultTypes.toList).any (Tryz.prog.veiledRec ·)) && Rows.topDrainsRow.veiledFits Tryz.prog Tryz.f5.params.toList (Tryz.f5.params.toList ++ Rows.topDrainsSpec.plain.varTypes Tryz.prog ++ Tryz.f5.resultTypes.toList)) = true := by kernel_rfl
theorem joined : joinedFacts Tryz.prog 5 Tryz.f5 Rows.topDrainsSpec Rows.topDrainsRow = true := joined_of (P := Tryz.prog) (f := 5) (fn := Tryz.f5) (s := Rows.topDrainsSpec) (c := Rows.topDrainsRow) j0 laidOut j2 j3 j4 j5 j6 j7 j8 j9 j10 j11 j12 j13
theorem over : Rows.topDrainsRow.holds Tryz.pinned (OpenSpec.ofChange Rows.topDrainsSpec) :=
  OpenClaim.holds_of_wide 5 Tryz.f5 rfl rfl rfl rfl rfl rfl rfl ⟨rfl, rfl, rfl, rfl, rfl⟩ rfl rfl rfl rfl rfl (by kernel_rfl) Tryz.func5 joined
    (of_decide_eq_true (by kernel_rfl)) (by unfold Func.isWrapper; first | (rw [if_pos (by decide +kernel)]; kernel_rfl) | (rw [if_neg (by decide +kernel)]; exact ⟨rfl, rfl⟩))
    (fun os started H enc _ => lifted os started H enc)
theorem proved : Rows.TopDrainsSaid := over
#print axioms proved
end Go.Proofs.YtaimlgfepkopkaaGreat.topDrains
