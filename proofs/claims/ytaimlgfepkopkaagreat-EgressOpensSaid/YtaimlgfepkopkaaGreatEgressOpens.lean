/- 'Rows.EgressOpensSaid'. -/
import Derived.Test.YtaimlgfepkopkaaGreatRows
import Derived.Test.YtaimlgfepkopkaaGreatA2
import Derived.Test.YtaimlgfepkopkaaGreatK
import Derived.Test.YtaimlgfepkopkaaGreatB0
import Derived.Test.YtaimlgfepkopkaaGreatB1
import Derived.Test.YtaimlgfepkopkaaGreatB2
import Derived.Test.YtaimlgfepkopkaaGreatB3
import Derived.Test.YtaimlgfepkopkaaGreatB4
import Derived.Test.YtaimlgfepkopkaaGreatB5
import Derived.Test.YtaimlgfepkopkaaGreatB6
import Derived.Test.YtaimlgfepkopkaaGreatB7
import Derived.Test.YtaimlgfepkopkaaGreatB8
import Derived.Test.YtaimlgfepkopkaaGreatB9
namespace Go.Proofs.YtaimlgfepkopkaaGreat.egressOpens
open Go.ChangeShapes Go.WideShapes Go.ChangeAt Go.RowKit Go.X
set_option linter.unusedVariables false
theorem own : ownKnob Tryz.prog.godebug = none := by kernel_rfl
theorem laidOut : laidOutB Tryz.prog = true := by kernel_rfl
theorem walk (a0 : Int) (w0 : (Lit.int .i64 a0).wf = true) (a1 : Int) (w1 : (Lit.int .i64 a1).wf = true) (w : World)  :
    Calls Tryz.prog 8 #[.int .i64 a0, .int .i64 a1] w fun e w' => e = .returned (.bool true) ∧ Below w.heap.size w w' := by
  have t := law_read (w := w) (EgO.opens_tri a0 a1) readOk_emp
  exact t
set_option maxRecDepth 100000 in
theorem lifted (os : Os) (started : os.Started) (H : Type) (enc : TypeId × Value → H) :
    ReturnsInHanded {} Tryz.checked os 8 .any (Rows.egressOpensSpec.pre6 enc Tryz.prog Tryz.f8 Rows.egressOpensRow.domain false) (Rows.egressOpensSpec.post enc Tryz.prog Tryz.f8 false true false false) := by
  refine returnsInHanded_of_change (C := Tryz.checked) own started (by kernel_rfl) Tryz.func8
    (ChangeSpec.witness6 (enc := enc) (C := Tryz.checked) false ⟨#[], #[.int .i64 0, .int .i64 0], []⟩ 8 (by kernel_rfl) (by kernel_rfl) (by kernel_rfl) (by kernel_rfl)) ?_
  intro W base args ds gs before hval0 hW hcnd _
  have hval : ∀ (j : Nat) t v, Tryz.f8.params[j]? = some t → args[j]? = some v → Value.okWide Tryz.prog W .any base t v := hval0
  have hW' := hW
  obtain ⟨p, q, hA0, hV, rfl, hfz, hnd⟩ := hW
  have hA : DataW.TrodAll enc Tryz.prog W 0 (fun _ => true) true Tryz.f8.params.toList args.toList ds p := hA0
  rw [Tryz.params8] at hA hval
  obtain ⟨v0, vs0, d0, ds0, p0, q0, hargs, rfl, rfl, h0, r0⟩ := trodAll_cons hA
  obtain ⟨v1, vs1, d1, ds1, p1, q1, rfl, rfl, rfl, h1, r1⟩ := trodAll_cons r0
  obtain ⟨rfl, rfl, rfl⟩ := trodAll_nil r1
  obtain rfl : args = #[v0, v1] := by cases args; simp_all
  obtain ⟨rfl, rfl⟩ := trodVars_none hV
  obtain ⟨a0, rfl, rfl, rfl, w0⟩ := open_int Tryz.underlying3 (hval 0 3 v0 rfl rfl) h0
  obtain ⟨a1, rfl, rfl, rfl, w1⟩ := open_int Tryz.underlying3 (hval 1 3 v1 rfl rfl) h1
  clear hA0 hval0
  refine (walk a0 w0 a1 w1 W ).mono fun e W' ⟨he, hg⟩ => ?_
  subst he
  exact ⟨_, rfl, post_of_below hW' (fun _ _ _ => trodAll_cons_mk (shut_bool Tryz.underlying4 _) trodAll_mk0)
    (trodAll_cons_mk (shut_int Tryz.underlying3 w0) (trodAll_cons_mk (shut_int Tryz.underlying3 w1) trodAll_mk0)) rfl rfl hg⟩
theorem j0 : Rows.egressOpensRow.wf (OpenSpec.ofChange Rows.egressOpensSpec) = true := by kernel_rfl
theorem j2 : mapsRowed Tryz.prog = true := by kernel_rfl
theorem j3 : (Tryz.f8.params.all (Tryz.prog.readableRec ·) && (namedTie Tryz.prog Rows.egressOpensRow.named Rows.egressOpensSpec.vars && ((Rows.egressOpensRow.stops == []) && ((Tryz.prog.stops == []) && ((Rows.egressOpensRow.knobs == []) && (Tryz.prog.stopKnobs == [])))))) = true := by kernel_rfl
theorem j4 : (Rows.egressOpensRow.inPlace == Tryz.prog.inPlace 8) = true := by kernel_rfl
theorem j5 : (Rows.egressOpensRow.unfollowed == Tryz.prog.unfollowed 8) = true := by kernel_rfl
theorem j6 : (Rows.egressOpensRow.recurses == Tryz.prog.recurses 8) = true := by kernel_rfl
theorem j7 : (Rows.egressOpensRow.named == Tryz.prog.varsNamed 8) = true := by kernel_rfl
theorem j8 : ((Rows.egressOpensRow.maps == (Tryz.f8.params.toList ++ Rows.egressOpensSpec.plain.varTypes Tryz.prog).any (Tryz.prog.mapsRec ·)) && ((Rows.egressOpensRow.ifaces == (Tryz.f8.params.toList ++ Rows.egressOpensSpec.plain.varTypes Tryz.prog).any (Tryz.prog.ifacesRec ·)) && ((Rows.egressOpensRow.mapsOut == Tryz.prog.mapsAmong Tryz.f8.resultTypes.toList) && ((Rows.egressOpensRow.loops == (Tryz.f8.params.toList ++ Rows.egressOpensSpec.plain.varTypes Tryz.prog).any (Tryz.prog.loopsFrom ·)) && (Rows.egressOpensRow.wideKeys == (Tryz.f8.params.toList ++ Rows.egressOpensSpec.plain.varTypes Tryz.prog ++ Tryz.f8.resultTypes.toList).any (Tryz.prog.wideKeysFrom ·)))))) = true := by kernel_rfl
theorem j9 : (Rows.egressOpensSpec.vars.all (Tryz.prog.varReadable ·) && (Tryz.f8.resultTypes.all (fun t => Tryz.prog.readableRec t && decide (t < Tryz.prog.types.size)) && ((Rows.egressOpensRow.ifacesOut == Tryz.f8.resultTypes.toList.any (Tryz.prog.ifacesRec ·)) && ((Rows.egressOpensRow.loopsOut == Tryz.f8.resultTypes.toList.any (Tryz.prog.loopsFrom ·)) && ((Rows.egressOpensRow.plainKeys == Tryz.prog.plainKeys) && Rows.egressOpensRow.shortTexts.isNone))))) = true := by kernel_rfl
theorem j10 : Tryz.prog.stopsHeard = true := by kernel_rfl
theorem j11 : Tryz.prog.mayEnter = true := by kernel_rfl
theorem j12 : ((Rows.egressOpensRow.lifted == Tryz.prog.liftsFinal) && ((Tryz.prog.make == some Rows.egressOpensRow.make) && ((Rows.egressOpensRow.kinds == kindsOf Tryz.prog Tryz.f8 Rows.egressOpensRow) && (Rows.egressOpensRow.pinned == Rows.egressOpensRow.pinnedBy)))) = true := by kernel_rfl
theorem j13 : ((Rows.egressOpensRow.veiled == (Tryz.f8.params.toList ++ Rows.egressOpensSpec.plain.varTypes Tryz.prog ++ Tryz.f8.resultTypes.toList).any (Tryz.prog.veiledRec ·)) && Rows.egressOpensRow.veiledFits Tryz.prog Tryz.f8.params.toList (Tryz.f8.params.toList ++ Rows.egressOpensSpec.plain.varTypes Tryz.prog ++ Tryz.f8.resultTypes.toList)) = true := by kernel_rfl
theorem joined : joinedFacts Tryz.prog 8 Tryz.f8 Rows.egressOpensSpec Rows.egressOpensRow = true := joined_of (P := Tryz.prog) (f := 8) (fn := Tryz.f8) (s := Rows.egressOpensSpec) (c := Rows.egressOpensRow) j0 laidOut j2 j3 j4 j5 j6 j7 j8 j9 j10 j11 j12 j13
theorem over : Rows.egressOpensRow.holds Tryz.pinned (OpenSpec.ofChange Rows.egressOpensSpec) :=
  OpenClaim.holds_of_wide 8 Tryz.f8 rfl rfl rfl rfl rfl rfl rfl ⟨rfl, rfl, rfl, rfl, rfl⟩ rfl rfl rfl rfl rfl (by kernel_rfl) Tryz.func8 joined
    (of_decide_eq_true (by kernel_rfl)) (by unfold Func.isWrapper; first | (rw [if_pos (by decide +kernel)]; kernel_rfl) | (rw [if_neg (by decide +kernel)]; exact ⟨rfl, rfl⟩))
    (fun os started H enc _ => lifted os started H enc)
theorem proved : Rows.EgressOpensSaid := over
#print axioms proved
end Go.Proofs.YtaimlgfepkopkaaGreat.egressOpens
