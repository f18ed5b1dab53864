/- 'Rows.EgressNilSaid'. -/
import Derived.Test.YtaimlgfepkopkaaGreatRows
import Derived.Test.YtaimlgfepkopkaaGreatA2
import Derived.Test.YtaimlgfepkopkaaGreatK
import Derived.Test.YtaimlgfepkopkaaGreatB0
import Derived.Test.YtaimlgfepkopkaaGreatB1
import Derived.Test.YtaimlgfepkopkaaGreatB2
import Derived.Test.YtaimlgfepkopkaaGreatB3
import Derived.Test.YtaimlgfepkopkaaGreatB4
import Derived.Test.YtaimlgfepkopkaaGreatB5
import Derived.Test.YtaimlgfepkopkaaGreatB6
import Derived.Test.YtaimlgfepkopkaaGreatB7
import Derived.Test.YtaimlgfepkopkaaGreatB8
import Derived.Test.YtaimlgfepkopkaaGreatB9
namespace Go.Proofs.YtaimlgfepkopkaaGreat.egressNil
open Go.ChangeShapes Go.WideShapes Go.ChangeAt Go.RowKit Go.X
set_option linter.unusedVariables false
theorem own : ownKnob Tryz.prog.godebug = none := by kernel_rfl
theorem laidOut : laidOutB Tryz.prog = true := by kernel_rfl
theorem walk (a0 : Ks.T K_i3u2si4u2bi2) (g0 : rowOk (Ks.mk K_i3u2si4u2bi2 a0)) (a1 : Int) (w1 : (Lit.int .i64 a1).wf = true) (w : World)  :
    Calls Tryz.prog 13 #[(V1.agg (Ks.mk K_i3u2si4u2bi2 a0)).enc, .int .i64 a1] w fun e w' => e = .returned (.bool true) ∧ Below w.heap.size w w' := by
  have t := law_read (w := w) (EgH.nil_tri a0 a1) readOk_emp
  exact t
set_option maxRecDepth 100000 in
theorem lifted (os : Os) (started : os.Started) (H : Type) (enc : TypeId × Value → H) :
    ReturnsInHanded {} Tryz.checked os 13 .any (Rows.egressNilSpec.pre6 enc Tryz.prog Tryz.f13 Rows.egressNilRow.domain false) (Rows.egressNilSpec.post enc Tryz.prog Tryz.f13 false true false false) := by
  refine returnsInHanded_of_change (C := Tryz.checked) own started (by kernel_rfl) Tryz.func13
    (ChangeSpec.witness6 (enc := enc) (C := Tryz.checked) false ⟨#[], #[(V1.agg [.int .i64 0, .int .i64 0, .int .i64 0, .int .u64 0, .int .u64 0, .sl ⟨none, 0, 0⟩, .int .i64 0, .int .i64 0, .int .i64 0, .int .i64 0, .int .u64 0, .int .u64 0, .bool false, .int .i64 0, .int .i64 0]).enc, .int .i64 0], []⟩ 13 (by kernel_rfl) (by kernel_rfl) (by kernel_rfl) (by kernel_rfl)) ?_
  intro W base args ds gs before hval0 hW hcnd _
  have hval : ∀ (j : Nat) t v, Tryz.f13.params[j]? = some t → args[j]? = some v → Value.okWide Tryz.prog W .any base t v := hval0
  have hW' := hW
  obtain ⟨p, q, hA0, hV, rfl, hfz, hnd⟩ := hW
  have hA : DataW.TrodAll enc Tryz.prog W 0 (fun _ => true) true Tryz.f13.params.toList args.toList ds p := hA0
  rw [Tryz.params13] at hA hval
  obtain ⟨v0, vs0, d0, ds0, p0, q0, hargs, rfl, rfl, h0, r0⟩ := trodAll_cons hA
  obtain ⟨v1, vs1, d1, ds1, p1, q1, rfl, rfl, rfl, h1, r1⟩ := trodAll_cons r0
  obtain ⟨rfl, rfl, rfl⟩ := trodAll_nil r1
  obtain rfl : args = #[v0, v1] := by cases args; simp_all
  obtain ⟨rfl, rfl⟩ := trodVars_none hV
  obtain ⟨a0, rfl, g0⟩ := row_rd 1 (ks := K_i3u2si4u2bi2) (t := 40) (ts := [3, 3, 3, 23, 23, 38, 3, 3, 3, 3, 23, 23, 4, 3, 3]) (by kernel_rfl) (by kernel_rfl) (by kernel_rfl) (hval 0 40 v0 rfl rfl) h0
  obtain ⟨a1, rfl, rfl, rfl, w1⟩ := open_int Tryz.underlying3 (hval 1 3 v1 rfl rfl) h1
  clear hA0 hval0
  refine (walk a0 (rowOk_of g0 (by simp [Ks.len])) a1 w1 W ).mono fun e W' ⟨he, hg⟩ => ?_
  subst he
  have hlt0 : ∀ x ∈ p0, x.block < W.heap.size := fun x hx => by simpa using hW'.lt x (by simp [hx])
  exact ⟨_, rfl, post_of_below hW' (fun _ _ _ => trodAll_cons_mk (shut_bool Tryz.underlying4 _) trodAll_mk0)
    (trodAll_cons_mk (Below.trod laidOut (by kernel_rfl) (of_decide_eq_true (by kernel_rfl)) h0 hg hlt0) (trodAll_cons_mk (shut_int Tryz.underlying3 w1) trodAll_mk0)) rfl rfl hg⟩
theorem j0 : Rows.egressNilRow.wf (OpenSpec.ofChange Rows.egressNilSpec) = true := by kernel_rfl
theorem j2 : mapsRowed Tryz.prog = true := by kernel_rfl
theorem j3 : (Tryz.f13.params.all (Tryz.prog.readableRec ·) && (namedTie Tryz.prog Rows.egressNilRow.named Rows.egressNilSpec.vars && ((Rows.egressNilRow.stops == []) && ((Tryz.prog.stops == []) && ((Rows.egressNilRow.knobs == []) && (Tryz.prog.stopKnobs == [])))))) = true := by kernel_rfl
theorem j4 : (Rows.egressNilRow.inPlace == Tryz.prog.inPlace 13) = true := by kernel_rfl
theorem j5 : (Rows.egressNilRow.unfollowed == Tryz.prog.unfollowed 13) = true := by kernel_rfl
theorem j6 : (Rows.egressNilRow.recurses == Tryz.prog.recurses 13) = true := by kernel_rfl
theorem j7 : (Rows.egressNilRow.named == Tryz.prog.varsNamed 13) = true := by kernel_rfl
theorem j8 : ((Rows.egressNilRow.maps == (Tryz.f13.params.toList ++ Rows.egressNilSpec.plain.varTypes Tryz.prog).any (Tryz.prog.mapsRec ·)) && ((Rows.egressNilRow.ifaces == (Tryz.f13.params.toList ++ Rows.egressNilSpec.plain.varTypes Tryz.prog).any (Tryz.prog.ifacesRec ·)) && ((Rows.egressNilRow.mapsOut == Tryz.prog.mapsAmong Tryz.f13.resultTypes.toList) && ((Rows.egressNilRow.loops == (Tryz.f13.params.toList ++ Rows.egressNilSpec.plain.varTypes Tryz.prog).any (Tryz.prog.loopsFrom ·)) && (Rows.egressNilRow.wideKeys == (Tryz.f13.params.toList ++ Rows.egressNilSpec.plain.varTypes Tryz.prog ++ Tryz.f13.resultTypes.toList).any (Tryz.prog.wideKeysFrom ·)))))) = true := by kernel_rfl
theorem j9 : (Rows.egressNilSpec.vars.all (Tryz.prog.varReadable ·) && (Tryz.f13.resultTypes.all (fun t => Tryz.prog.readableRec t && decide (t < Tryz.prog.types.size)) && ((Rows.egressNilRow.ifacesOut == Tryz.f13.resultTypes.toList.any (Tryz.prog.ifacesRec ·)) && ((Rows.egressNilRow.loopsOut == Tryz.f13.resultTypes.toList.any (Tryz.prog.loopsFrom ·)) && ((Rows.egressNilRow.plainKeys == Tryz.prog.plainKeys) && Rows.egressNilRow.shortTexts.isNone))))) = true := by kernel_rfl
theorem j10 : Tryz.prog.stopsHeard = true := by kernel_rfl
theorem j11 : Tryz.prog.mayEnter = true := by kernel_rfl
theorem j12 : ((Rows.egressNilRow.lifted == Tryz.prog.liftsFinal) && ((Tryz.prog.make == some Rows.egressNilRow.make) && ((Rows.egressNilRow.kinds == kindsOf Tryz.prog Tryz.f13 Rows.egressNilRow) && (Rows.egressNilRow.pinned == Rows.egressNilRow.pinnedBy)))) = true := by kernel_rfl
theorem j13 : ((Rows.egressNilRow.veiled == (Tryz.f13.params.toList ++ Rows.egressNilSpec.plain.varTypes Tryz.prog ++ Tryz.f13.resultTypes.toList).any (Tryz.prog.veiledRec ·)) && Rows.egressNilRow.veiledFits Tryz.prog Tryz.f13.params.toList (Tryz.f13.params.toList ++ Rows.egressNilSpec.plain.varTypes Tryz.prog ++ Tryz.f13.resultTypes.toList)) = true := by kernel_rfl
theorem joined : joinedFacts Tryz.prog 13 Tryz.f13 Rows.egressNilSpec Rows.egressNilRow = true := joined_of (P := Tryz.prog) (f := 13) (fn := Tryz.f13) (s := Rows.egressNilSpec) (c := Rows.egressNilRow) j0 laidOut j2 j3 j4 j5 j6 j7 j8 j9 j10 j11 j12 j13
theorem over : Rows.egressNilRow.holds Tryz.pinned (OpenSpec.ofChange Rows.egressNilSpec) :=
  OpenClaim.holds_of_wide 13 Tryz.f13 rfl rfl rfl rfl rfl rfl rfl ⟨rfl, rfl, rfl, rfl, rfl⟩ rfl rfl rfl rfl rfl (by kernel_rfl) Tryz.func13 joined
    (of_decide_eq_true (by kernel_rfl)) (by unfold Func.isWrapper; first | (rw [if_pos (by decide +kernel)]; kernel_rfl) | (rw [if_neg (by decide +kernel)]; exact ⟨rfl, rfl⟩))
    (fun os started H enc _ => lifted os started H enc)
theorem proved : Rows.EgressNilSaid := over
#print axioms proved
end Go.Proofs.YtaimlgfepkopkaaGreat.egressNil
