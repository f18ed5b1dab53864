/- 'Rows.EgressPlaysSaid'. -/
import Derived.Test.YtaimlgfepkopkaaGreatRows
import Derived.Test.YtaimlgfepkopkaaGreatB14
namespace Go.Proofs.YtaimlgfepkopkaaGreat.egressPlays
open Go.ChangeShapes Go.WideShapes Go.ChangeAt Go.RowKit Go.X
set_option linter.all false
theorem own : ownKnob Tryz.prog.godebug = none := by kernel_rfl
theorem laidOut : laidOutB Tryz.prog = true := by kernel_rfl
theorem walk (a0 : Ks.T aW) (g0 : xh (Ks.mk aW a0)) (s1 : Sl) (x1 : List (Ks.T aY × List (Ks.T [.int .u64, .int .u64]))) (n1 : Db s1) (l1 : s1.len = x1.length) (c1 : s1.len ≤ s1.cap) (m1 : x1.length ≤ maxLen) (g1 : ∀ p ∈ x1, xh (Ks.mk aY p.1) ∧ p.2.length ≤ maxLen ∧ (∀ y ∈ p.2, xh (Ks.mk [.int .u64, .int .u64] y)) ∧ ((fun z : Ks.T aY => z.2.2.2.2.2.1) p.1).len ≤ ((fun z : Ks.T aY => z.2.2.2.2.2.1) p.1).cap) (a2 : Bool) (w : World) (h1 : na w s1 15 (flat aY (x1.map Prod.fst))) (k1 : ∀ p ∈ x1, na w ((fun z : Ks.T aY => z.2.2.2.2.2.1) p.1) 2 (flat [.int .u64, .int .u64] p.2) ∧ ((fun z : Ks.T aY => z.2.2.2.2.2.1) p.1).len = p.2.length) :
    Calls Tryz.prog 12 #[(V1.agg (Ks.mk aW a0)).enc, (Lf.sl s1).enc, .bool a2] w fun e w' => e = .returned (.bool true) ∧ Below w.heap.size w w' := by
  have t := LM (w := w) (WY.Jo a0 s1 a2 x1 (EU.T2 fun k n hl => g0 _ hl) (fun p hp => NV.T3 (fun k n hl => (g1 p hp).1 _ hl) (g1 p hp).2.1 (g1 p hp).2.2.2)) (xf (xe h1 (by rw [List.length_map]; exact l1)) (Bj fun p hp => xe (k1 p hp).1 (k1 p hp).2))
  exact t
set_option maxRecDepth 100000 in
theorem lifted (os : Os) (started : os.Started) (H : Type) (enc : TypeId × Value → H) :
    ReturnsInHanded {} Tryz.checked os 12 .any (Rows.egressPlaysSpec.pre6 enc Tryz.prog Tryz.f12 Rows.egressPlaysRow.domain false) (Rows.egressPlaysSpec.post enc Tryz.prog Tryz.f12 false true false false) := by
  refine returnsInHanded_of_change (C := Tryz.checked) own started (by kernel_rfl) Tryz.func12
    (ChangeSpec.witness6 (enc := enc) (C := Tryz.checked) false ⟨#[], #[(V1.agg [.int .i64 0, .int .i64 0, .int .i64 0, .int .i64 0, .int .u64 0, .int .u64 0, .bool false, .int .i64 0, .int .i64 0]).enc, .slice none 0 0, .bool false], []⟩ 12 (by kernel_rfl) (by kernel_rfl) (by kernel_rfl) (by kernel_rfl)) ?_
  intro W base args ds gs before hval0 hW hcnd _
  have hval : ∀ (j : Nat) t v, Tryz.f12.params[j]? = some t → args[j]? = some v → Value.okWide Tryz.prog W .any base t v := hval0
  have hW' := hW
  obtain ⟨p, q, hA0, hV, rfl, hfz, hnd⟩ := hW
  have hA : DataW.TrodAll enc Tryz.prog W 0 (fun _ => true) true Tryz.f12.params.toList args.toList ds p := hA0
  rw [Tryz.params12] at hA hval
  obtain ⟨v0, vs0, d0, ds0, p0, q0, hargs, rfl, rfl, h0, r0⟩ := trodAll_cons hA
  obtain ⟨v1, vs1, d1, ds1, p1, q1, rfl, rfl, rfl, h1, r1⟩ := trodAll_cons r0
  obtain ⟨v2, vs2, d2, ds2, p2, q2, rfl, rfl, rfl, h2, r2⟩ := trodAll_cons r1
  obtain ⟨rfl, rfl, rfl⟩ := trodAll_nil r2
  obtain rfl : args = #[v0, v1, v2] := by cases args; simp_all
  obtain ⟨rfl, rfl⟩ := trodVars_none hV
  obtain ⟨a0, rfl, g0⟩ := T_ 1 (ks := aW) (t := 25) (ts := [3, 3, 3, 3, 23, 23, 4, 3, 3]) (by kernel_rfl) (by kernel_rfl) (by kernel_rfl) (hval 0 25 v0 rfl rfl) h0
  obtain ⟨s1, z1, rfl, n1, k1, l1, m1, g1⟩ := P2 2 (ks := aY) Tryz.underlying48 (ts := [3, 3, 3, 23, 23, 38, 3, 3, 3, 3, 23, 23, 4, 3, 3]) (by kernel_rfl) (by kernel_rfl) (by kernel_rfl) (by simp) (hval 1 48 v1 rfl rfl) h1
  obtain ⟨x1, hx1, hp1⟩ := PC (n := 0) (ks := aY) (ks' := [.int .u64, .int .u64]) (ts' := [23, 23]) 5 (fun z : Ks.T aY => z.2.2.2.2.2.1) (fun _ => rfl) (u := 38) rfl Tryz.underlying38 (by kernel_rfl) (by kernel_rfl) (by kernel_rfl) (by simp) g1 (by simp)
  rw [← hx1] at k1 l1 m1
  rw [List.length_map] at l1 m1
  obtain ⟨a2, rfl, rfl, rfl⟩ := open_bool Tryz.underlying4 (hval 2 4 v2 rfl rfl) h2
  have c1 := TH Tryz.underlying48 n1 (hval 1 48 _ rfl rfl)
  clear hA0 hval0
  refine (walk a0 (zR g0 (by simp [Ks.len])) s1 x1 n1 l1 c1 m1 (fun p hp => ⟨(hp1 p hp).1, (hp1 p hp).2.2.2.1, (hp1 p hp).2.2.2.2⟩) a2 W k1 (fun p hp => ⟨(hp1 p hp).2.1, (hp1 p hp).2.2.1⟩)).mono fun e W' ⟨he, hg⟩ => ?_
  subst he
  have hlt0 : ∀ x ∈ p0, x.block < W.heap.size := fun x hx => by simpa using hW'.lt x (by simp [hx])
  have hlt1 : ∀ x ∈ p1, x.block < W.heap.size := fun x hx => by simpa using hW'.lt x (by simp [hx])
  exact ⟨_, rfl, Au hW' (fun _ _ _ => trodAll_cons_mk (shut_bool Tryz.underlying4 _) trodAll_mk0)
    (trodAll_cons_mk (Below.trod laidOut (by kernel_rfl) (of_decide_eq_true (by kernel_rfl)) h0 hg hlt0) (trodAll_cons_mk (Below.trod laidOut (by kernel_rfl) (of_decide_eq_true (by kernel_rfl)) h1 hg hlt1) (trodAll_cons_mk (shut_bool Tryz.underlying4 _) trodAll_mk0))) rfl rfl hg⟩
theorem j0 : Rows.egressPlaysRow.wf (OpenSpec.ofChange Rows.egressPlaysSpec) = true := by kernel_rfl
theorem j2 : mapsRowed Tryz.prog = true := by kernel_rfl
theorem j3 : (Tryz.f12.params.all (Tryz.prog.readableRec ·) && (namedTie Tryz.prog Rows.egressPlaysRow.named Rows.egressPlaysSpec.vars && ((Rows.egressPlaysRow.stops == []) && ((Tryz.prog.stops == []) && ((Rows.egressPlaysRow.knobs == []) && (Tryz.prog.stopKnobs == [])))))) = true := by kernel_rfl
theorem j4 : (Rows.egressPlaysRow.inPlace == Tryz.prog.inPlace 12) = true := by kernel_rfl
theorem j5 : (Rows.egressPlaysRow.unfollowed == Tryz.prog.unfollowed 12) = true := by kernel_rfl
theorem j6 : (Rows.egressPlaysRow.recurses == Tryz.prog.recurses 12) = true := by kernel_rfl
theorem j7 : (Rows.egressPlaysRow.named == Tryz.prog.varsNamed 12) = true := by kernel_rfl
theorem j8 : ((Rows.egressPlaysRow.maps == (Tryz.f12.params.toList ++ Rows.egressPlaysSpec.plain.varTypes Tryz.prog).any (Tryz.prog.mapsRec ·)) && ((Rows.egressPlaysRow.ifaces == (Tryz.f12.params.toList ++ Rows.egressPlaysSpec.plain.varTypes Tryz.prog).any (Tryz.prog.ifacesRec ·)) && ((Rows.egressPlaysRow.mapsOut == Tryz.prog.mapsAmong Tryz.f12.resultTypes.toList) && ((Rows.egressPlaysRow.loops == (Tryz.f12.params.toList ++ Rows.egressPlaysSpec.plain.varTypes Tryz.prog).any (Tryz.prog.loopsFrom ·)) && (Rows.egressPlaysRow.wideKeys == (Tryz.f12.params.toList ++ Rows.egressPlaysSpec.plain.varTypes Tryz.prog ++ Tryz.f12.resultTypes.toList).any (Tryz.prog.wideKeysFrom ·)))))) = true := by kernel_rfl
theorem j9 : (Rows.egressPlaysSpec.vars.all (Tryz.prog.varReadable ·) && (Tryz.f12.resultTypes.all (fun t => Tryz.prog.readableRec t && decide (t < Tryz.prog.types.size)) && ((Rows.egressPlaysRow.ifacesOut == Tryz.f12.resultTypes.toList.any (Tryz.prog.ifacesRec ·)) && ((Rows.egressPlaysRow.loopsOut == Tryz.f12.resultTypes.toList.any (Tryz.prog.loopsFrom ·)) && ((Rows.egressPlaysRow.plainKeys == Tryz.prog.plainKeys) && Rows.egressPlaysRow.shortTexts.isNone))))) = true := by kernel_rfl
theorem j10 : Tryz.prog.stopsHeard = true := by kernel_rfl
theorem j11 : Tryz.prog.mayEnter = true := by kernel_rfl
theorem j12 : ((Rows.egressPlaysRow.lifted == Tryz.prog.liftsFinal) && ((Tryz.prog.make == some Rows.egressPlaysRow.make) && ((Rows.egressPlaysRow.kinds == HF Tryz.prog Tryz.f12 Rows.egressPlaysRow) && (Rows.egressPlaysRow.pinned == Rows.egressPlaysRow.pinnedBy)))) = true := by kernel_rfl
theorem j13 : ((Rows.egressPlaysRow.veiled == (Tryz.f12.params.toList ++ Rows.egressPlaysSpec.plain.varTypes Tryz.prog ++ Tryz.f12.resultTypes.toList).any (Tryz.prog.veiledRec ·)) && Rows.egressPlaysRow.veiledFits Tryz.prog Tryz.f12.params.toList (Tryz.f12.params.toList ++ Rows.egressPlaysSpec.plain.varTypes Tryz.prog ++ Tryz.f12.resultTypes.toList)) = true := by kernel_rfl
theorem joined : joinedFacts Tryz.prog 12 Tryz.f12 Rows.egressPlaysSpec Rows.egressPlaysRow = true := I6 (P := Tryz.prog) (f := 12) (fn := Tryz.f12) (s := Rows.egressPlaysSpec) (c := Rows.egressPlaysRow) j0 laidOut j2 j3 j4 j5 j6 j7 j8 j9 j10 j11 j12 j13
theorem over : Rows.egressPlaysRow.holds Tryz.pinned (OpenSpec.ofChange Rows.egressPlaysSpec) :=
  OpenClaim.holds_of_wide 12 Tryz.f12 rfl rfl rfl rfl rfl rfl rfl ⟨rfl, rfl, rfl, rfl, rfl⟩ rfl rfl rfl rfl rfl (by kernel_rfl) Tryz.func12 joined
    (of_decide_eq_true (by kernel_rfl)) (by unfold Func.isWrapper; first | (rw [if_pos (by decide +kernel)]; kernel_rfl) | (rw [if_neg (by decide +kernel)]; exact ⟨rfl, rfl⟩))
    (fun os started H enc _ => lifted os started H enc)
theorem proved : Rows.EgressPlaysSaid := over
#print axioms proved
end Go.Proofs.YtaimlgfepkopkaaGreat.egressPlays
