/- 'Rows.EgressDropsSaid'. -/
import Derived.Test.YtaimlgfepkopkaaGreatRows
import Derived.Test.YtaimlgfepkopkaaGreatA2
import Derived.Test.YtaimlgfepkopkaaGreatK
import Derived.Test.YtaimlgfepkopkaaGreatB0
import Derived.Test.YtaimlgfepkopkaaGreatB1
import Derived.Test.YtaimlgfepkopkaaGreatB2
import Derived.Test.YtaimlgfepkopkaaGreatB3
import Derived.Test.YtaimlgfepkopkaaGreatB4
import Derived.Test.YtaimlgfepkopkaaGreatB5
import Derived.Test.YtaimlgfepkopkaaGreatB6
import Derived.Test.YtaimlgfepkopkaaGreatB7
import Derived.Test.YtaimlgfepkopkaaGreatB8
import Derived.Test.YtaimlgfepkopkaaGreatB9
namespace Go.Proofs.YtaimlgfepkopkaaGreat.egressDrops
open Go.ChangeShapes Go.WideShapes Go.ChangeAt Go.RowKit Go.X
set_option linter.unusedVariables false
theorem own : ownKnob Tryz.prog.godebug = none := by kernel_rfl
theorem laidOut : laidOutB Tryz.prog = true := by kernel_rfl
theorem walk (a0 : Int) (w0 : (Lit.int .i64 a0).wf = true) (w : World)  :
    Calls Tryz.prog 9 #[.int .i64 a0] w fun e w' => e = .returned (.bool true) ∧ Below w.heap.size w w' := by
  have t := law_read (w := w) (EgN.drops_tri a0) readOk_emp
  exact t
set_option maxRecDepth 100000 in
theorem lifted (os : Os) (started : os.Started) (H : Type) (enc : TypeId × Value → H) :
    ReturnsInHanded {} Tryz.checked os 9 .any (Rows.egressDropsSpec.pre6 enc Tryz.prog Tryz.f9 Rows.egressDropsRow.domain false) (Rows.egressDropsSpec.post enc Tryz.prog Tryz.f9 false true false false) := by
  refine returnsInHanded_of_change (C := Tryz.checked) own started (by kernel_rfl) Tryz.func9
    (ChangeSpec.witness6 (enc := enc) (C := Tryz.checked) false ⟨#[], #[.int .i64 0], []⟩ 9 (by kernel_rfl) (by kernel_rfl) (by kernel_rfl) (by kernel_rfl)) ?_
  intro W base args ds gs before hval0 hW hcnd _
  have hval : ∀ (j : Nat) t v, Tryz.f9.params[j]? = some t → args[j]? = some v → Value.okWide Tryz.prog W .any base t v := hval0
  have hW' := hW
  obtain ⟨p, q, hA0, hV, rfl, hfz, hnd⟩ := hW
  have hA : DataW.TrodAll enc Tryz.prog W 0 (fun _ => true) true Tryz.f9.params.toList args.toList ds p := hA0
  rw [Tryz.params9] at hA hval
  obtain ⟨v0, vs0, d0, ds0, p0, q0, hargs, rfl, rfl, h0, r0⟩ := trodAll_cons hA
  obtain ⟨rfl, rfl, rfl⟩ := trodAll_nil r0
  obtain rfl : args = #[v0] := by cases args; simp_all
  obtain ⟨rfl, rfl⟩ := trodVars_none hV
  obtain ⟨a0, rfl, rfl, rfl, w0⟩ := open_int Tryz.underlying3 (hval 0 3 v0 rfl rfl) h0
  clear hA0 hval0
  refine (walk a0 w0 W ).mono fun e W' ⟨he, hg⟩ => ?_
  subst he
  exact ⟨_, rfl, post_of_below hW' (fun _ _ _ => trodAll_cons_mk (shut_bool Tryz.underlying4 _) trodAll_mk0)
    (trodAll_cons_mk (shut_int Tryz.underlying3 w0) trodAll_mk0) rfl rfl hg⟩
theorem j0 : Rows.egressDropsRow.wf (OpenSpec.ofChange Rows.egressDropsSpec) = true := by kernel_rfl
theorem j2 : mapsRowed Tryz.prog = true := by kernel_rfl
theorem j3 : (Tryz.f9.params.all (Tryz.prog.readableRec ·) && (namedTie Tryz.prog Rows.egressDropsRow.named Rows.egressDropsSpec.vars && ((Rows.egressDropsRow.stops == []) && ((Tryz.prog.stops == []) && ((Rows.egressDropsRow.knobs == []) && (Tryz.prog.stopKnobs == [])))))) = true := by kernel_rfl
theorem j4 : (Rows.egressDropsRow.inPlace == Tryz.prog.inPlace 9) = true := by kernel_rfl
theorem j5 : (Rows.egressDropsRow.unfollowed == Tryz.prog.unfollowed 9) = true := by kernel_rfl
theorem j6 : (Rows.egressDropsRow.recurses == Tryz.prog.recurses 9) = true := by kernel_rfl
theorem j7 : (Rows.egressDropsRow.named == Tryz.prog.varsNamed 9) = true := by kernel_rfl
theorem j8 : ((Rows.egressDropsRow.maps == (Tryz.f9.params.toList ++ Rows.egressDropsSpec.plain.varTypes Tryz.prog).any (Tryz.prog.mapsRec ·)) && ((Rows.egressDropsRow.ifaces == (Tryz.f9.params.toList ++ Rows.egressDropsSpec.plain.varTypes Tryz.prog).any (Tryz.prog.ifacesRec ·)) && ((Rows.egressDropsRow.mapsOut == Tryz.prog.mapsAmong Tryz.f9.resultTypes.toList) && ((Rows.egressDropsRow.loops == (Tryz.f9.params.toList ++ Rows.egressDropsSpec.plain.varTypes Tryz.prog).any (Tryz.prog.loopsFrom ·)) && (Rows.egressDropsRow.wideKeys == (Tryz.f9.params.toList ++ Rows.egressDropsSpec.plain.varTypes Tryz.prog ++ Tryz.f9.resultTypes.toList).any (Tryz.prog.wideKeysFrom ·)))))) = true := by kernel_rfl
theorem j9 : (Rows.egressDropsSpec.vars.all (Tryz.prog.varReadable ·) && (Tryz.f9.resultTypes.all (fun t => Tryz.prog.readableRec t && decide (t < Tryz.prog.types.size)) && ((Rows.egressDropsRow.ifacesOut == Tryz.f9.resultTypes.toList.any (Tryz.prog.ifacesRec ·)) && ((Rows.egressDropsRow.loopsOut == Tryz.f9.resultTypes.toList.any (Tryz.prog.loopsFrom ·)) && ((Rows.egressDropsRow.plainKeys == Tryz.prog.plainKeys) && Rows.egressDropsRow.shortTexts.isNone))))) = true := by kernel_rfl
theorem j10 : Tryz.prog.stopsHeard = true := by kernel_rfl
theorem j11 : Tryz.prog.mayEnter = true := by kernel_rfl
theorem j12 : ((Rows.egressDropsRow.lifted == Tryz.prog.liftsFinal) && ((Tryz.prog.make == some Rows.egressDropsRow.make) && ((Rows.egressDropsRow.kinds == kindsOf Tryz.prog Tryz.f9 Rows.egressDropsRow) && (Rows.egressDropsRow.pinned == Rows.egressDropsRow.pinnedBy)))) = true := by kernel_rfl
theorem j13 : ((Rows.egressDropsRow.veiled == (Tryz.f9.params.toList ++ Rows.egressDropsSpec.plain.varTypes Tryz.prog ++ Tryz.f9.resultTypes.toList).any (Tryz.prog.veiledRec ·)) && Rows.egressDropsRow.veiledFits Tryz.prog Tryz.f9.params.toList (Tryz.f9.params.toList ++ Rows.egressDropsSpec.plain.varTypes Tryz.prog ++ Tryz.f9.resultTypes.toList)) = true := by kernel_rfl
theorem joined : joinedFacts Tryz.prog 9 Tryz.f9 Rows.egressDropsSpec Rows.egressDropsRow = true := joined_of (P := Tryz.prog) (f := 9) (fn := Tryz.f9) (s := Rows.egressDropsSpec) (c := Rows.egressDropsRow) j0 laidOut j2 j3 j4 j5 j6 j7 j8 j9 j10 j11 j12 j13
theorem over : Rows.egressDropsRow.holds Tryz.pinned (OpenSpec.ofChange Rows.egressDropsSpec) :=
  OpenClaim.holds_of_wide 9 Tryz.f9 rfl rfl rfl rfl rfl rfl rfl ⟨rfl, rfl, rfl, rfl, rfl⟩ rfl rfl rfl rfl rfl (by kernel_rfl) Tryz.func9 joined
    (of_decide_eq_true (by kernel_rfl)) (by unfold Func.isWrapper; first | (rw [if_pos (by decide +kernel)]; kernel_rfl) | (rw [if_neg (by decide +kernel)]; exact ⟨rfl, rfl⟩))
    (fun os started H enc _ => lifted os started H enc)
theorem proved : Rows.EgressDropsSaid := over
#print axioms proved
end Go.Proofs.YtaimlgfepkopkaaGreat.egressDrops
