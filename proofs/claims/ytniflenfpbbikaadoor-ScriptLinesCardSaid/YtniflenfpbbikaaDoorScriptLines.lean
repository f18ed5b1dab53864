/- 'Rows.ScriptLinesSaid'. -/
import Derived.Test.YtniflenfpbbikaaDoorRows
import Derived.Test.YtniflenfpbbikaaDoorA1
import Derived.Test.YtniflenfpbbikaaDoorK
import Derived.Test.YtniflenfpbbikaaDoorB0
import Derived.Test.YtniflenfpbbikaaDoorB1
import Derived.Test.YtniflenfpbbikaaDoorCards
import Derived.Test.YtniflenfpbbikaaDoorTie
import Derived.Lay
import Derived.SevenTiedAt
import Derived.Handed
import Derived.Lib.LaidTab
import Derived.Stop.LaidErr
namespace Go.Proofs.YtniflenfpbbikaaDoor.scriptLines
open Go.ChangeShapes Go.WideShapes Go.ChangeAt Go.RowKit Go.X
set_option linter.unusedVariables false
theorem own : ownKnob Tryd.prog.godebug = none := by kernel_rfl
theorem laidOut : laidOutB Tryd.prog = true := by kernel_rfl
theorem walk (w : World) (ht : Lib.TabIs Tryd.prog w "internal/strconv.uint64pow10" .u64 Lib.pow10Tab) (a0 : Int) (w0 : (Lit.int .i64 a0).wf = true) (a1 : Int) (w1 : (Lit.int .u64 a1).wf = true) (a2 : Int) (w2 : (Lit.int .i64 a2).wf = true) (a3 : Int) (w3 : (Lit.int .u64 a3).wf = true)  :
    Calls Tryd.prog 6 #[.int .i64 a0, .int .u64 a1, .int .i64 a2, .int .u64 a3] w fun e w' => e = .returned (.bool true) ∧ Below w.heap.size w w' := by
  have t := law_read (w := w) (ScJ.lines_tri a0 a1 a2 a3 (wf_u64 w1) (wf_u64 w3)) (ScJ.readOk_tab ht)
  exact t
theorem met (os : Os) (args : Array Value) : laidMet Tryd.prog Rows.scriptLinesRow.laid ((World.laidAll Tryd.prog os Rows.scriptLinesRow.laid).forCall (fun _ _ => 0) ⟨#[], args, []⟩).memory := laidMet_laidAll args (by kernel_rfl) (by kernel_rfl)
set_option maxRecDepth 100000 in
theorem lifted (os : Os) (started : os.Started) (H : Type) (enc : TypeId × Value → H) :
    ReturnsInHanded {} Tryd.checked os 6 .any (fun w args => (Rows.scriptLinesSpec.pre enc Tryd.prog Tryd.f6 [] false w args ∧ laidMetH Tryd.prog Rows.scriptLinesRow.laid w) ∧ sizedMet enc Tryd.prog Tryd.f6 (OpenSpec.ofChange Rows.scriptLinesSpec) false w args) (Rows.scriptLinesSpec.post enc Tryd.prog Tryd.f6 false true false false) := by
  refine returnsInHanded_of_change_and (C := Tryd.checked) (X := fun w _ => laidMetH Tryd.prog Rows.scriptLinesRow.laid w) (fun _ _ _ hh h => h.of_heap hh) own started (by kernel_rfl) Tryd.func6
    (ChangeSpec.witness_at (enc := enc) (C := Tryd.checked) (os := os) (X := fun w _ => laidMetH Tryd.prog Rows.scriptLinesRow.laid w) false (World.laidAll Tryd.prog os Rows.scriptLinesRow.laid) #[.int .i64 0, .int .u64 0, .int .i64 0, .int .u64 0] 8 (World.laidAll_os _ _ _) (by kernel_rfl) (by kernel_rfl) (by kernel_rfl) (by kernel_rfl) (by kernel_rfl) (met os _)) ?_
  intro W base args ds gs before hval0 hW hcnd hwt hL _
  have hval : ∀ (j : Nat) t v, Tryd.f6.params[j]? = some t → args[j]? = some v → Value.okWide Tryd.prog W .any base t v := hval0
  have hW' := hW
  obtain ⟨p, q, hA0, hV, rfl, hfz, hnd⟩ := hW
  have hA : DataW.TrodAll enc Tryd.prog W 0 (fun _ => true) true Tryd.f6.params.toList args.toList ds p := hA0
  rw [Tryd.params6] at hA hval
  obtain ⟨v0, vs0, d0, ds0, p0, q0, hargs, rfl, rfl, h0, r0⟩ := trodAll_cons hA
  obtain ⟨v1, vs1, d1, ds1, p1, q1, rfl, rfl, rfl, h1, r1⟩ := trodAll_cons r0
  obtain ⟨v2, vs2, d2, ds2, p2, q2, rfl, rfl, rfl, h2, r2⟩ := trodAll_cons r1
  obtain ⟨v3, vs3, d3, ds3, p3, q3, rfl, rfl, rfl, h3, r3⟩ := trodAll_cons r2
  obtain ⟨rfl, rfl, rfl⟩ := trodAll_nil r3
  obtain rfl : args = #[v0, v1, v2, v3] := by cases args; simp_all
  obtain ⟨rfl, rfl⟩ := trodVars_none hV
  obtain ⟨a0, rfl, rfl, rfl, w0⟩ := open_int Tryd.underlying46 (hval 0 46 v0 rfl rfl) h0
  obtain ⟨a1, rfl, rfl, rfl, w1⟩ := open_int Tryd.underlying26 (hval 1 26 v1 rfl rfl) h1
  obtain ⟨a2, rfl, rfl, rfl, w2⟩ := open_int Tryd.underlying3 (hval 2 3 v2 rfl rfl) h2
  obtain ⟨a3, rfl, rfl, rfl, w3⟩ := open_int Tryd.underlying26 (hval 3 26 v3 rfl rfl) h3
  clear hA0 hval0
  have hL1 : laidMet Tryd.prog Rows.scriptLinesRow.laid W := hL
  have ht : Lib.TabIs Tryd.prog W "internal/strconv.uint64pow10" .u64 Lib.pow10Tab := Lib.tabIs_of_head (g := 0) (t := 85) (e := 26) (n := 20) (by kernel_rfl) (by kernel_rfl) Tryd.underlying85 Tryd.underlying26 (by kernel_rfl) (by kernel_rfl) hL1.tail.tail
  refine (walk W ht a0 w0 a1 w1 a2 w2 a3 w3 ).mono fun e W' ⟨he, hg⟩ => ?_
  subst he
  exact ⟨_, rfl, post_of_below hW' (fun _ _ _ => trodAll_cons_mk (shut_bool Tryd.underlying4 _) trodAll_mk0)
    (trodAll_cons_mk (shut_int Tryd.underlying46 w0) (trodAll_cons_mk (shut_int Tryd.underlying26 w1) (trodAll_cons_mk (shut_int Tryd.underlying3 w2) (trodAll_cons_mk (shut_int Tryd.underlying26 w3) trodAll_mk0)))) rfl rfl hg⟩
theorem j0 : Rows.scriptLinesRow.wf (OpenSpec.ofChange Rows.scriptLinesSpec) = true := by kernel_rfl
theorem j2 : mapsRowed Tryd.prog = true := by kernel_rfl
theorem j3 : (Tryd.f6.params.all (Tryd.prog.readableRec ·) && (namedTie Tryd.prog Rows.scriptLinesRow.named Rows.scriptLinesSpec.vars && ((Rows.scriptLinesRow.stops == []) && ((Tryd.prog.stops == []) && ((Rows.scriptLinesRow.knobs == []) && (Tryd.prog.stopKnobs == [])))))) = true := by kernel_rfl
theorem j4 : (Rows.scriptLinesRow.inPlace == Tryd.prog.inPlace 6) = true := by kernel_rfl
theorem j5 : (Rows.scriptLinesRow.unfollowed == Tryd.prog.unfollowed 6) = true := by kernel_rfl
theorem j6 : (Rows.scriptLinesRow.recurses == Tryd.prog.recurses 6) = true := by kernel_rfl
theorem j7 : (Rows.scriptLinesRow.named == Tryd.prog.varsNamed 6) = true := by kernel_rfl
theorem j8 : ((Rows.scriptLinesRow.maps == (Tryd.f6.params.toList ++ Rows.scriptLinesSpec.plain.varTypes Tryd.prog).any (Tryd.prog.mapsRec ·)) && ((Rows.scriptLinesRow.ifaces == (Tryd.f6.params.toList ++ Rows.scriptLinesSpec.plain.varTypes Tryd.prog).any (Tryd.prog.ifacesRec ·)) && ((Rows.scriptLinesRow.mapsOut == Tryd.prog.mapsAmong Tryd.f6.resultTypes.toList) && ((Rows.scriptLinesRow.loops == (Tryd.f6.params.toList ++ Rows.scriptLinesSpec.plain.varTypes Tryd.prog).any (Tryd.prog.loopsFrom ·)) && (Rows.scriptLinesRow.wideKeys == (Tryd.f6.params.toList ++ Rows.scriptLinesSpec.plain.varTypes Tryd.prog ++ Tryd.f6.resultTypes.toList).any (Tryd.prog.wideKeysFrom ·)))))) = true := by kernel_rfl
theorem j9 : (Rows.scriptLinesSpec.vars.all (Tryd.prog.varReadable ·) && (Tryd.f6.resultTypes.all (fun t => Tryd.prog.readableRec t && decide (t < Tryd.prog.types.size)) && ((Rows.scriptLinesRow.ifacesOut == Tryd.f6.resultTypes.toList.any (Tryd.prog.ifacesRec ·)) && ((Rows.scriptLinesRow.loopsOut == Tryd.f6.resultTypes.toList.any (Tryd.prog.loopsFrom ·)) && ((Rows.scriptLinesRow.plainKeys == Tryd.prog.plainKeys) && Rows.scriptLinesRow.shortTexts.isNone))))) = true := by kernel_rfl
theorem j10 : Tryd.prog.stopsHeard = true := by kernel_rfl
theorem j11 : Tryd.prog.mayEnter = true := by kernel_rfl
theorem j12 : ((Rows.scriptLinesRow.lifted == Tryd.prog.liftsFinal) && ((Tryd.prog.make == some Rows.scriptLinesRow.make) && ((Rows.scriptLinesRow.kinds == kindsOf Tryd.prog Tryd.f6 Rows.scriptLinesRow) && (Rows.scriptLinesRow.pinned == Rows.scriptLinesRow.pinnedBy)))) = true := by kernel_rfl
theorem j13 : ((Rows.scriptLinesRow.veiled == (Tryd.f6.params.toList ++ Rows.scriptLinesSpec.plain.varTypes Tryd.prog ++ Tryd.f6.resultTypes.toList).any (Tryd.prog.veiledRec ·)) && Rows.scriptLinesRow.veiledFits Tryd.prog Tryd.f6.params.toList (Tryd.f6.params.toList ++ Rows.scriptLinesSpec.plain.varTypes Tryd.prog ++ Tryd.f6.resultTypes.toList)) = true := by kernel_rfl
theorem joined : joinedFacts Tryd.prog 6 Tryd.f6 Rows.scriptLinesSpec Rows.scriptLinesRow = true := joined_of (P := Tryd.prog) (f := 6) (fn := Tryd.f6) (s := Rows.scriptLinesSpec) (c := Rows.scriptLinesRow) j0 laidOut j2 j3 j4 j5 j6 j7 j8 j9 j10 j11 j12 j13
theorem over : Rows.scriptLinesRow.holds Tryd.pinned (OpenSpec.ofChange Rows.scriptLinesSpec) :=
  OpenClaim.holds_of_wide 6 Tryd.f6 rfl rfl rfl rfl rfl rfl rfl ⟨rfl, rfl, rfl, rfl, rfl⟩ rfl rfl rfl rfl rfl (by kernel_rfl) Tryd.func6 joined
    (of_decide_eq_true (by kernel_rfl)) (by unfold Func.isWrapper; first | (rw [if_pos (by decide +kernel)]; kernel_rfl) | (rw [if_neg (by decide +kernel)]; exact ⟨rfl, rfl⟩))
    (fun os started H enc _ => lifted os started H enc)
theorem proved : Rows.ScriptLinesCardSaid :=
  Claim7.holds_tied_plain_at .later [] [.data, .data, .data] true (true, "0d1a386e622465f7f5b3f5cfa72d8735a8b6bccab957f274b99eca0076c2d30d") false
    over (fun _ h => by cases h) (by kernel_rfl) (fun _ h => by cases h) scriptLines_row_tie rfl ⟨rfl, rfl⟩ (by kernel_rfl) rfl
    (fun f fn hf hfn => by
      obtain rfl : f = 6 := Option.some.inj ((show Tryd.prog.funcNamed Rows.scriptLinesRow.func = some 6 by kernel_rfl).symm.trans hf) |>.symm
      obtain rfl : fn = Tryd.f6 := (Option.some.inj (Tryd.func6.symm.trans hfn)).symm
      exact ⟨by kernel_rfl, fun j t ht => by
        have hw : (Tryd.f6.params.toList.all fun t => Tryd.prog.wantsStandIn t == false) = true := by kernel_rfl
        have hm : t ∈ Tryd.f6.params.toList := List.mem_of_getElem? (i := j) (by rw [Array.getElem?_toList]; exact ht)
        have hz : Tryd.prog.wantsStandIn t = false := by simpa using List.all_eq_true.1 hw t hm
        exact hz⟩)
    (by kernel_rfl)
#print axioms proved
end Go.Proofs.YtniflenfpbbikaaDoor.scriptLines
