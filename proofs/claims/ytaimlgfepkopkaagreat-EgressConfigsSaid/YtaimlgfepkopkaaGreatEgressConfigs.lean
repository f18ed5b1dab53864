/- 'Rows.EgressConfigsSaid'. -/
import Derived.Test.YtaimlgfepkopkaaGreatRows
import Derived.Test.YtaimlgfepkopkaaGreatA2
import Derived.Test.YtaimlgfepkopkaaGreatK
import Derived.Test.YtaimlgfepkopkaaGreatB0
import Derived.Test.YtaimlgfepkopkaaGreatB1
import Derived.Test.YtaimlgfepkopkaaGreatB2
import Derived.Test.YtaimlgfepkopkaaGreatB3
import Derived.Test.YtaimlgfepkopkaaGreatB4
import Derived.Test.YtaimlgfepkopkaaGreatB5
import Derived.Test.YtaimlgfepkopkaaGreatB6
import Derived.Test.YtaimlgfepkopkaaGreatB7
import Derived.Test.YtaimlgfepkopkaaGreatB8
import Derived.Test.YtaimlgfepkopkaaGreatB9
namespace Go.Proofs.YtaimlgfepkopkaaGreat.egressConfigs
open Go.ChangeShapes Go.WideShapes Go.ChangeAt Go.RowKit Go.X
set_option linter.unusedVariables false
theorem own : ownKnob Tryz.prog.godebug = none := by kernel_rfl
theorem laidOut : laidOutB Tryz.prog = true := by kernel_rfl
theorem walk (a0 : Ks.T K_i4u2bi2) (g0 : rowOk (Ks.mk K_i4u2bi2 a0)) (a1 : Ks.T K_i4u2bi2) (g1 : rowOk (Ks.mk K_i4u2bi2 a1)) (a2 : Bool) (w : World)  :
    Calls Tryz.prog 7 #[(V1.agg (Ks.mk K_i4u2bi2 a0)).enc, (V1.agg (Ks.mk K_i4u2bi2 a1)).enc, .bool a2] w fun e w' => e = .returned (.bool true) ∧ Below w.heap.size w w' := by
  have t := law_read (w := w) (EgL.configs_tri a0 a1 a2 (FqI.okC_of fun k n hl => g0 _ hl) (FqI.okC_of fun k n hl => g1 _ hl)) readOk_emp
  exact t
set_option maxRecDepth 100000 in
theorem lifted (os : Os) (started : os.Started) (H : Type) (enc : TypeId × Value → H) :
    ReturnsInHanded {} Tryz.checked os 7 .any (Rows.egressConfigsSpec.pre6 enc Tryz.prog Tryz.f7 Rows.egressConfigsRow.domain false) (Rows.egressConfigsSpec.post enc Tryz.prog Tryz.f7 false true false false) := by
  refine returnsInHanded_of_change (C := Tryz.checked) own started (by kernel_rfl) Tryz.func7
    (ChangeSpec.witness6 (enc := enc) (C := Tryz.checked) false ⟨#[], #[(V1.agg [.int .i64 0, .int .i64 0, .int .i64 0, .int .i64 0, .int .u64 0, .int .u64 0, .bool false, .int .i64 0, .int .i64 0]).enc, (V1.agg [.int .i64 0, .int .i64 0, .int .i64 0, .int .i64 0, .int .u64 0, .int .u64 0, .bool false, .int .i64 0, .int .i64 0]).enc, .bool false], []⟩ 7 (by kernel_rfl) (by kernel_rfl) (by kernel_rfl) (by kernel_rfl)) ?_
  intro W base args ds gs before hval0 hW hcnd _
  have hval : ∀ (j : Nat) t v, Tryz.f7.params[j]? = some t → args[j]? = some v → Value.okWide Tryz.prog W .any base t v := hval0
  have hW' := hW
  obtain ⟨p, q, hA0, hV, rfl, hfz, hnd⟩ := hW
  have hA : DataW.TrodAll enc Tryz.prog W 0 (fun _ => true) true Tryz.f7.params.toList args.toList ds p := hA0
  rw [Tryz.params7] at hA hval
  obtain ⟨v0, vs0, d0, ds0, p0, q0, hargs, rfl, rfl, h0, r0⟩ := trodAll_cons hA
  obtain ⟨v1, vs1, d1, ds1, p1, q1, rfl, rfl, rfl, h1, r1⟩ := trodAll_cons r0
  obtain ⟨v2, vs2, d2, ds2, p2, q2, rfl, rfl, rfl, h2, r2⟩ := trodAll_cons r1
  obtain ⟨rfl, rfl, rfl⟩ := trodAll_nil r2
  obtain rfl : args = #[v0, v1, v2] := by cases args; simp_all
  obtain ⟨rfl, rfl⟩ := trodVars_none hV
  obtain ⟨a0, rfl, g0⟩ := row_rd 1 (ks := K_i4u2bi2) (t := 25) (ts := [3, 3, 3, 3, 23, 23, 4, 3, 3]) (by kernel_rfl) (by kernel_rfl) (by kernel_rfl) (hval 0 25 v0 rfl rfl) h0
  obtain ⟨a1, rfl, g1⟩ := row_rd 1 (ks := K_i4u2bi2) (t := 25) (ts := [3, 3, 3, 3, 23, 23, 4, 3, 3]) (by kernel_rfl) (by kernel_rfl) (by kernel_rfl) (hval 1 25 v1 rfl rfl) h1
  obtain ⟨a2, rfl, rfl, rfl⟩ := open_bool Tryz.underlying4 (hval 2 4 v2 rfl rfl) h2
  clear hA0 hval0
  refine (walk a0 (rowOk_of g0 (by simp [Ks.len])) a1 (rowOk_of g1 (by simp [Ks.len])) a2 W ).mono fun e W' ⟨he, hg⟩ => ?_
  subst he
  have hlt0 : ∀ x ∈ p0, x.block < W.heap.size := fun x hx => by simpa using hW'.lt x (by simp [hx])
  have hlt1 : ∀ x ∈ p1, x.block < W.heap.size := fun x hx => by simpa using hW'.lt x (by simp [hx])
  exact ⟨_, rfl, post_of_below hW' (fun _ _ _ => trodAll_cons_mk (shut_bool Tryz.underlying4 _) trodAll_mk0)
    (trodAll_cons_mk (Below.trod laidOut (by kernel_rfl) (of_decide_eq_true (by kernel_rfl)) h0 hg hlt0) (trodAll_cons_mk (Below.trod laidOut (by kernel_rfl) (of_decide_eq_true (by kernel_rfl)) h1 hg hlt1) (trodAll_cons_mk (shut_bool Tryz.underlying4 _) trodAll_mk0))) rfl rfl hg⟩
theorem j0 : Rows.egressConfigsRow.wf (OpenSpec.ofChange Rows.egressConfigsSpec) = true := by kernel_rfl
theorem j2 : mapsRowed Tryz.prog = true := by kernel_rfl
theorem j3 : (Tryz.f7.params.all (Tryz.prog.readableRec ·) && (namedTie Tryz.prog Rows.egressConfigsRow.named Rows.egressConfigsSpec.vars && ((Rows.egressConfigsRow.stops == []) && ((Tryz.prog.stops == []) && ((Rows.egressConfigsRow.knobs == []) && (Tryz.prog.stopKnobs == [])))))) = true := by kernel_rfl
theorem j4 : (Rows.egressConfigsRow.inPlace == Tryz.prog.inPlace 7) = true := by kernel_rfl
theorem j5 : (Rows.egressConfigsRow.unfollowed == Tryz.prog.unfollowed 7) = true := by kernel_rfl
theorem j6 : (Rows.egressConfigsRow.recurses == Tryz.prog.recurses 7) = true := by kernel_rfl
theorem j7 : (Rows.egressConfigsRow.named == Tryz.prog.varsNamed 7) = true := by kernel_rfl
theorem j8 : ((Rows.egressConfigsRow.maps == (Tryz.f7.params.toList ++ Rows.egressConfigsSpec.plain.varTypes Tryz.prog).any (Tryz.prog.mapsRec ·)) && ((Rows.egressConfigsRow.ifaces == (Tryz.f7.params.toList ++ Rows.egressConfigsSpec.plain.varTypes Tryz.prog).any (Tryz.prog.ifacesRec ·)) && ((Rows.egressConfigsRow.mapsOut == Tryz.prog.mapsAmong Tryz.f7.resultTypes.toList) && ((Rows.egressConfigsRow.loops == (Tryz.f7.params.toList ++ Rows.egressConfigsSpec.plain.varTypes Tryz.prog).any (Tryz.prog.loopsFrom ·)) && (Rows.egressConfigsRow.wideKeys == (Tryz.f7.params.toList ++ Rows.egressConfigsSpec.plain.varTypes Tryz.prog ++ Tryz.f7.resultTypes.toList).any (Tryz.prog.wideKeysFrom ·)))))) = true := by kernel_rfl
theorem j9 : (Rows.egressConfigsSpec.vars.all (Tryz.prog.varReadable ·) && (Tryz.f7.resultTypes.all (fun t => Tryz.prog.readableRec t && decide (t < Tryz.prog.types.size)) && ((Rows.egressConfigsRow.ifacesOut == Tryz.f7.resultTypes.toList.any (Tryz.prog.ifacesRec ·)) && ((Rows.egressConfigsRow.loopsOut == Tryz.f7.resultTypes.toList.any (Tryz.prog.loopsFrom ·)) && ((Rows.egressConfigsRow.plainKeys == Tryz.prog.plainKeys) && Rows.egressConfigsRow.shortTexts.isNone))))) = true := by kernel_rfl
theorem j10 : Tryz.prog.stopsHeard = true := by kernel_rfl
theorem j11 : Tryz.prog.mayEnter = true := by kernel_rfl
theorem j12 : ((Rows.egressConfigsRow.lifted == Tryz.prog.liftsFinal) && ((Tryz.prog.make == some Rows.egressConfigsRow.make) && ((Rows.egressConfigsRow.kinds == kindsOf Tryz.prog Tryz.f7 Rows.egressConfigsRow) && (Rows.egressConfigsRow.pinned == Rows.egressConfigsRow.pinnedBy)))) = true := by kernel_rfl
theorem j13 : ((Rows.egressConfigsRow.veiled == (Tryz.f7.params.toList ++ Rows.egressConfigsSpec.plain.varTypes Tryz.prog ++ Tryz.f7.resultTypes.toList).any (Tryz.prog.veiledRec ·)) && Rows.egressConfigsRow.veiledFits Tryz.prog Tryz.f7.params.toList (Tryz.f7.params.toList ++ Rows.egressConfigsSpec.plain.varTypes Tryz.prog ++ Tryz.f7.resultTypes.toList)) = true := by kernel_rfl
theorem joined : joinedFacts Tryz.prog 7 Tryz.f7 Rows.egressConfigsSpec Rows.egressConfigsRow = true := joined_of (P := Tryz.prog) (f := 7) (fn := Tryz.f7) (s := Rows.egressConfigsSpec) (c := Rows.egressConfigsRow) j0 laidOut j2 j3 j4 j5 j6 j7 j8 j9 j10 j11 j12 j13
theorem over : Rows.egressConfigsRow.holds Tryz.pinned (OpenSpec.ofChange Rows.egressConfigsSpec) :=
  OpenClaim.holds_of_wide 7 Tryz.f7 rfl rfl rfl rfl rfl rfl rfl ⟨rfl, rfl, rfl, rfl, rfl⟩ rfl rfl rfl rfl rfl (by kernel_rfl) Tryz.func7 joined
    (of_decide_eq_true (by kernel_rfl)) (by unfold Func.isWrapper; first | (rw [if_pos (by decide +kernel)]; kernel_rfl) | (rw [if_neg (by decide +kernel)]; exact ⟨rfl, rfl⟩))
    (fun os started H enc _ => lifted os started H enc)
theorem proved : Rows.EgressConfigsSaid := over
#print axioms proved
end Go.Proofs.YtaimlgfepkopkaaGreat.egressConfigs
