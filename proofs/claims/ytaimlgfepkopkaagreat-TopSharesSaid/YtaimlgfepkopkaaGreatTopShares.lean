/- 'Rows.TopSharesSaid'. -/
import Derived.Test.YtaimlgfepkopkaaGreatRows
import Derived.Test.YtaimlgfepkopkaaGreatA2
import Derived.Test.YtaimlgfepkopkaaGreatK
import Derived.Test.YtaimlgfepkopkaaGreatB0
import Derived.Test.YtaimlgfepkopkaaGreatB1
import Derived.Test.YtaimlgfepkopkaaGreatB2
import Derived.Test.YtaimlgfepkopkaaGreatB3
import Derived.Test.YtaimlgfepkopkaaGreatB4
import Derived.Test.YtaimlgfepkopkaaGreatB5
import Derived.Test.YtaimlgfepkopkaaGreatB6
import Derived.Test.YtaimlgfepkopkaaGreatB7
import Derived.Test.YtaimlgfepkopkaaGreatB8
import Derived.Test.YtaimlgfepkopkaaGreatB9
namespace Go.Proofs.YtaimlgfepkopkaaGreat.topShares
open Go.ChangeShapes Go.WideShapes Go.ChangeAt Go.RowKit Go.X
set_option linter.unusedVariables false
theorem own : ownKnob Tryz.prog.godebug = none := by kernel_rfl
theorem laidOut : laidOutB Tryz.prog = true := by kernel_rfl
theorem walk (a0 : Int) (w0 : (Lit.int .i64 a0).wf = true) (s1 : Sl) (z1 : List (Ks.T [.int .i64])) (n1 : Nrm s1) (l1 : s1.len = z1.length) (c1 : s1.len ≤ s1.cap) (m1 : z1.length ≤ maxLen) (g1 : ∀ z ∈ z1, rowOk (Ks.mk [.int .i64] z)) (w : World) (h1 : SlRd w s1 1 (flat [.int .i64] z1)) :
    Calls Tryz.prog 3 #[.int .i64 a0, (Lf.sl s1).enc] w fun e w' => e = .returned (.bool true) ∧ Below w.heap.size w w' := by
  have t := law_read (w := w) (EgY.shares_tri a0 s1 z1) (readOk_rarr h1 l1)
  exact t
set_option maxRecDepth 100000 in
theorem lifted (os : Os) (started : os.Started) (H : Type) (enc : TypeId × Value → H) :
    ReturnsInHanded {} Tryz.checked os 3 .any (Rows.topSharesSpec.pre6 enc Tryz.prog Tryz.f3 Rows.topSharesRow.domain false) (Rows.topSharesSpec.post enc Tryz.prog Tryz.f3 false true false false) := by
  refine returnsInHanded_of_change (C := Tryz.checked) own started (by kernel_rfl) Tryz.func3
    (ChangeSpec.witness6 (enc := enc) (C := Tryz.checked) false ⟨#[], #[.int .i64 0, .slice none 0 0], []⟩ 3 (by kernel_rfl) (by kernel_rfl) (by kernel_rfl) (by kernel_rfl)) ?_
  intro W base args ds gs before hval0 hW hcnd _
  have hval : ∀ (j : Nat) t v, Tryz.f3.params[j]? = some t → args[j]? = some v → Value.okWide Tryz.prog W .any base t v := hval0
  have hW' := hW
  obtain ⟨p, q, hA0, hV, rfl, hfz, hnd⟩ := hW
  have hA : DataW.TrodAll enc Tryz.prog W 0 (fun _ => true) true Tryz.f3.params.toList args.toList ds p := hA0
  rw [Tryz.params3] at hA hval
  obtain ⟨v0, vs0, d0, ds0, p0, q0, hargs, rfl, rfl, h0, r0⟩ := trodAll_cons hA
  obtain ⟨v1, vs1, d1, ds1, p1, q1, rfl, rfl, rfl, h1, r1⟩ := trodAll_cons r0
  obtain ⟨rfl, rfl, rfl⟩ := trodAll_nil r1
  obtain rfl : args = #[v0, v1] := by cases args; simp_all
  obtain ⟨rfl, rfl⟩ := trodVars_none hV
  obtain ⟨a0, rfl, rfl, rfl, w0⟩ := open_int Tryz.underlying3 (hval 0 3 v0 rfl rfl) h0
  obtain ⟨s1, z1, rfl, n1, k1, l1, m1, g1⟩ := rows_rd 1 (ks := [.int .i64]) Tryz.underlying22 (ts := [3]) (by kernel_rfl) (by kernel_rfl) (by kernel_rfl) (by simp) (hval 1 22 v1 rfl rfl) h1
  have c1 := cap_rd Tryz.underlying22 n1 (hval 1 22 _ rfl rfl)
  clear hA0 hval0
  refine (walk a0 w0 s1 z1 n1 l1 c1 m1 (fun z hz => rowOk_of (g1 z hz) (by simp [Ks.len])) W k1).mono fun e W' ⟨he, hg⟩ => ?_
  subst he
  have hlt1 : ∀ x ∈ p1, x.block < W.heap.size := fun x hx => by simpa using hW'.lt x (by simp [hx])
  exact ⟨_, rfl, post_of_below hW' (fun _ _ _ => trodAll_cons_mk (shut_bool Tryz.underlying4 _) trodAll_mk0)
    (trodAll_cons_mk (shut_int Tryz.underlying3 w0) (trodAll_cons_mk (Below.trod laidOut (by kernel_rfl) (of_decide_eq_true (by kernel_rfl)) h1 hg hlt1) trodAll_mk0)) rfl rfl hg⟩
theorem j0 : Rows.topSharesRow.wf (OpenSpec.ofChange Rows.topSharesSpec) = true := by kernel_rfl
theorem j2 : mapsRowed Tryz.prog = true := by kernel_rfl
theorem j3 : (Tryz.f3.params.all (Tryz.prog.readableRec ·) && (namedTie Tryz.prog Rows.topSharesRow.named Rows.topSharesSpec.vars && ((Rows.topSharesRow.stops == []) && ((Tryz.prog.stops == []) && ((Rows.topSharesRow.knobs == []) && (Tryz.prog.stopKnobs == [])))))) = true := by kernel_rfl
theorem j4 : (Rows.topSharesRow.inPlace == Tryz.prog.inPlace 3) = true := by kernel_rfl
theorem j5 : (Rows.topSharesRow.unfollowed == Tryz.prog.unfollowed 3) = true := by kernel_rfl
theorem j6 : (Rows.topSharesRow.recurses == Tryz.prog.recurses 3) = true := by kernel_rfl
theorem j7 : (Rows.topSharesRow.named == Tryz.prog.varsNamed 3) = true := by kernel_rfl
theorem j8 : ((Rows.topSharesRow.maps == (Tryz.f3.params.toList ++ Rows.topSharesSpec.plain.varTypes Tryz.prog).any (Tryz.prog.mapsRec ·)) && ((Rows.topSharesRow.ifaces == (Tryz.f3.params.toList ++ Rows.topSharesSpec.plain.varTypes Tryz.prog).any (Tryz.prog.ifacesRec ·)) && ((Rows.topSharesRow.mapsOut == Tryz.prog.mapsAmong Tryz.f3.resultTypes.toList) && ((Rows.topSharesRow.loops == (Tryz.f3.params.toList ++ Rows.topSharesSpec.plain.varTypes Tryz.prog).any (Tryz.prog.loopsFrom ·)) && (Rows.topSharesRow.wideKeys == (Tryz.f3.params.toList ++ Rows.topSharesSpec.plain.varTypes Tryz.prog ++ Tryz.f3.resultTypes.toList).any (Tryz.prog.wideKeysFrom ·)))))) = true := by kernel_rfl
theorem j9 : (Rows.topSharesSpec.vars.all (Tryz.prog.varReadable ·) && (Tryz.f3.resultTypes.all (fun t => Tryz.prog.readableRec t && decide (t < Tryz.prog.types.size)) && ((Rows.topSharesRow.ifacesOut == Tryz.f3.resultTypes.toList.any (Tryz.prog.ifacesRec ·)) && ((Rows.topSharesRow.loopsOut == Tryz.f3.resultTypes.toList.any (Tryz.prog.loopsFrom ·)) && ((Rows.topSharesRow.plainKeys == Tryz.prog.plainKeys) && Rows.topSharesRow.shortTexts.isNone))))) = true := by kernel_rfl
theorem j10 : Tryz.prog.stopsHeard = true := by kernel_rfl
theorem j11 : Tryz.prog.mayEnter = true := by kernel_rfl
theorem j12 : ((Rows.topSharesRow.lifted == Tryz.prog.liftsFinal) && ((Tryz.prog.make == some Rows.topSharesRow.make) && ((Rows.topSharesRow.kinds == kindsOf Tryz.prog Tryz.f3 Rows.topSharesRow) && (Rows.topSharesRow.pinned == Rows.topSharesRow.pinnedBy)))) = true := by kernel_rfl
theorem j13 : ((Rows.topSharesRow.veiled == (Tryz.f3.params.toList ++ Rows.topSharesSpec.plain.varTypes Tryz.prog ++ Tryz.f3.resultTypes.toList).any (Tryz.prog.veiledRec ·)) && Rows.topSharesRow.veiledFits Tryz.prog Tryz.f3.params.toList (Tryz.f3.params.toList ++ Rows.topSharesSpec.plain.varTypes Tryz.prog ++ Tryz.f3.resultTypes.toList)) = true := by kernel_rfl
theorem joined : joinedFacts Tryz.prog 3 Tryz.f3 Rows.topSharesSpec Rows.topSharesRow = true := joined_of (P := Tryz.prog) (f := 3) (fn := Tryz.f3) (s := Rows.topSharesSpec) (c := Rows.topSharesRow) j0 laidOut j2 j3 j4 j5 j6 j7 j8 j9 j10 j11 j12 j13
theorem over : Rows.topSharesRow.holds Tryz.pinned (OpenSpec.ofChange Rows.topSharesSpec) :=
  OpenClaim.holds_of_wide 3 Tryz.f3 rfl rfl rfl rfl rfl rfl rfl ⟨rfl, rfl, rfl, rfl, rfl⟩ rfl rfl rfl rfl rfl (by kernel_rfl) Tryz.func3 joined
    (of_decide_eq_true (by kernel_rfl)) (by unfold Func.isWrapper; first | (rw [if_pos (by decide +kernel)]; kernel_rfl) | (rw [if_neg (by decide +kernel)]; exact ⟨rfl, rfl⟩))
    (fun os started H enc _ => lifted os started H enc)
theorem proved : Rows.TopSharesSaid := over
#print axioms proved
end Go.Proofs.YtaimlgfepkopkaaGreat.topShares
