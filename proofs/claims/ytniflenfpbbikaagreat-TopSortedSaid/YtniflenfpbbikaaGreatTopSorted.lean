/- 'Rows.TopSortedSaid'. -/
import Derived.Test.YtniflenfpbbikaaGreatRows
import Derived.Test.YtniflenfpbbikaaGreatA2
import Derived.Test.YtniflenfpbbikaaGreatK
import Derived.Test.YtniflenfpbbikaaGreatB0
import Derived.Test.YtniflenfpbbikaaGreatB1
import Derived.Test.YtniflenfpbbikaaGreatB2
import Derived.Test.YtniflenfpbbikaaGreatB3
import Derived.Test.YtniflenfpbbikaaGreatB4
import Derived.Test.YtniflenfpbbikaaGreatB5
import Derived.Test.YtniflenfpbbikaaGreatB6
import Derived.Test.YtniflenfpbbikaaGreatB7
import Derived.Test.YtniflenfpbbikaaGreatB8
import Derived.Test.YtniflenfpbbikaaGreatB9
namespace Go.Proofs.YtniflenfpbbikaaGreat.topSorted
open Go.ChangeShapes Go.WideShapes Go.ChangeAt Go.RowKit Go.X
set_option linter.unusedVariables false
theorem own : ownKnob Tryz.prog.godebug = none := by kernel_rfl
theorem laidOut : laidOutB Tryz.prog = true := by kernel_rfl
theorem walk (a0 : Ks.T K_i4u2bi2) (g0 : rowOk (Ks.mk K_i4u2bi2 a0)) (s1 : Sl) (x1 : List (Ks.T K_i3u2si4u2bi2 × List (Ks.T [.int .u64, .int .u64]))) (n1 : Nrm s1) (l1 : s1.len = x1.length) (c1 : s1.len ≤ s1.cap) (m1 : x1.length ≤ maxLen) (g1 : ∀ p ∈ x1, rowOk (Ks.mk K_i3u2si4u2bi2 p.1) ∧ p.2.length ≤ maxLen ∧ (∀ y ∈ p.2, rowOk (Ks.mk [.int .u64, .int .u64] y)) ∧ ((fun z : Ks.T K_i3u2si4u2bi2 => z.2.2.2.2.2.1) p.1).len ≤ ((fun z : Ks.T K_i3u2si4u2bi2 => z.2.2.2.2.2.1) p.1).cap) (w : World) (h1 : SlRd w s1 15 (flat K_i3u2si4u2bi2 (x1.map Prod.fst))) (k1 : ∀ p ∈ x1, SlRd w ((fun z : Ks.T K_i3u2si4u2bi2 => z.2.2.2.2.2.1) p.1) 2 (flat [.int .u64, .int .u64] p.2) ∧ ((fun z : Ks.T K_i3u2si4u2bi2 => z.2.2.2.2.2.1) p.1).len = p.2.length) :
    Calls Tryz.prog 3 #[(V1.agg (Ks.mk K_i4u2bi2 a0)).enc, (Lf.sl s1).enc] w fun e w' => e = .returned (.bool true) ∧ Below w.heap.size w w' := by
  have t := law_read (w := w) (TsD.sorted_tri a0 s1 x1 (FqI.okC_of fun k n hl => g0 _ hl) (fun p hp => EgG.okE_of (fun k n hl => (g1 p hp).1 _ hl) (g1 p hp).2.1 (g1 p hp).2.2.2)) (readOk_star (readOk_rarr h1 (by rw [List.length_map]; exact l1)) (readOk_rl fun p hp => readOk_rarr (k1 p hp).1 (k1 p hp).2))
  exact t
set_option maxRecDepth 100000 in
theorem lifted (os : Os) (started : os.Started) (H : Type) (enc : TypeId × Value → H) :
    ReturnsInHanded {} Tryz.checked os 3 .any (Rows.topSortedSpec.pre6 enc Tryz.prog Tryz.f3 Rows.topSortedRow.domain false) (Rows.topSortedSpec.post enc Tryz.prog Tryz.f3 false true false false) := by
  refine returnsInHanded_of_change (C := Tryz.checked) own started (by kernel_rfl) Tryz.func3
    (ChangeSpec.witness6 (enc := enc) (C := Tryz.checked) false ⟨#[], #[(V1.agg [.int .i64 0, .int .i64 0, .int .i64 0, .int .i64 0, .int .u64 0, .int .u64 0, .bool false, .int .i64 0, .int .i64 0]).enc, .slice none 0 0], []⟩ 3 (by kernel_rfl) (by kernel_rfl) (by kernel_rfl) (by kernel_rfl)) ?_
  intro W base args ds gs before hval0 hW hcnd _
  have hval : ∀ (j : Nat) t v, Tryz.f3.params[j]? = some t → args[j]? = some v → Value.okWide Tryz.prog W .any base t v := hval0
  have hW' := hW
  obtain ⟨p, q, hA0, hV, rfl, hfz, hnd⟩ := hW
  have hA : DataW.TrodAll enc Tryz.prog W 0 (fun _ => true) true Tryz.f3.params.toList args.toList ds p := hA0
  rw [Tryz.params3] at hA hval
  obtain ⟨v0, vs0, d0, ds0, p0, q0, hargs, rfl, rfl, h0, r0⟩ := trodAll_cons hA
  obtain ⟨v1, vs1, d1, ds1, p1, q1, rfl, rfl, rfl, h1, r1⟩ := trodAll_cons r0
  obtain ⟨rfl, rfl, rfl⟩ := trodAll_nil r1
  obtain rfl : args = #[v0, v1] := by cases args; simp_all
  obtain ⟨rfl, rfl⟩ := trodVars_none hV
  obtain ⟨a0, rfl, g0⟩ := row_rd 1 (ks := K_i4u2bi2) (t := 24) (ts := [3, 3, 3, 3, 22, 22, 4, 3, 3]) (by kernel_rfl) (by kernel_rfl) (by kernel_rfl) (hval 0 24 v0 rfl rfl) h0
  obtain ⟨s1, z1, rfl, n1, k1, l1, m1, g1⟩ := rows_rd 2 (ks := K_i3u2si4u2bi2) Tryz.underlying25 (ts := [3, 3, 3, 22, 22, 28, 3, 3, 3, 3, 22, 22, 4, 3, 3]) (by kernel_rfl) (by kernel_rfl) (by kernel_rfl) (by simp) (hval 1 25 v1 rfl rfl) h1
  obtain ⟨x1, hx1, hp1⟩ := nest_rd (n := 0) (ks := K_i3u2si4u2bi2) (ks' := [.int .u64, .int .u64]) (ts' := [22, 22]) 5 (fun z : Ks.T K_i3u2si4u2bi2 => z.2.2.2.2.2.1) (fun _ => rfl) (u := 28) rfl Tryz.underlying28 (by kernel_rfl) (by kernel_rfl) (by kernel_rfl) (by simp) g1 (by simp)
  rw [← hx1] at k1 l1 m1
  rw [List.length_map] at l1 m1
  have c1 := cap_rd Tryz.underlying25 n1 (hval 1 25 _ rfl rfl)
  clear hA0 hval0
  refine (walk a0 (rowOk_of g0 (by simp [Ks.len])) s1 x1 n1 l1 c1 m1 (fun p hp => ⟨(hp1 p hp).1, (hp1 p hp).2.2.2.1, (hp1 p hp).2.2.2.2⟩) W k1 (fun p hp => ⟨(hp1 p hp).2.1, (hp1 p hp).2.2.1⟩)).mono fun e W' ⟨he, hg⟩ => ?_
  subst he
  have hlt0 : ∀ x ∈ p0, x.block < W.heap.size := fun x hx => by simpa using hW'.lt x (by simp [hx])
  have hlt1 : ∀ x ∈ p1, x.block < W.heap.size := fun x hx => by simpa using hW'.lt x (by simp [hx])
  exact ⟨_, rfl, post_of_below hW' (fun _ _ _ => trodAll_cons_mk (shut_bool Tryz.underlying4 _) trodAll_mk0)
    (trodAll_cons_mk (Below.trod laidOut (by kernel_rfl) (of_decide_eq_true (by kernel_rfl)) h0 hg hlt0) (trodAll_cons_mk (Below.trod laidOut (by kernel_rfl) (of_decide_eq_true (by kernel_rfl)) h1 hg hlt1) trodAll_mk0)) rfl rfl hg⟩
theorem j0 : Rows.topSortedRow.wf (OpenSpec.ofChange Rows.topSortedSpec) = true := by kernel_rfl
theorem j2 : mapsRowed Tryz.prog = true := by kernel_rfl
theorem j3 : (Tryz.f3.params.all (Tryz.prog.readableRec ·) && (namedTie Tryz.prog Rows.topSortedRow.named Rows.topSortedSpec.vars && ((Rows.topSortedRow.stops == []) && ((Tryz.prog.stops == []) && ((Rows.topSortedRow.knobs == []) && (Tryz.prog.stopKnobs == [])))))) = true := by kernel_rfl
theorem j4 : (Rows.topSortedRow.inPlace == Tryz.prog.inPlace 3) = true := by kernel_rfl
theorem j5 : (Rows.topSortedRow.unfollowed == Tryz.prog.unfollowed 3) = true := by kernel_rfl
theorem j6 : (Rows.topSortedRow.recurses == Tryz.prog.recurses 3) = true := by kernel_rfl
theorem j7 : (Rows.topSortedRow.named == Tryz.prog.varsNamed 3) = true := by kernel_rfl
theorem j8 : ((Rows.topSortedRow.maps == (Tryz.f3.params.toList ++ Rows.topSortedSpec.plain.varTypes Tryz.prog).any (Tryz.prog.mapsRec ·)) && ((Rows.topSortedRow.ifaces == (Tryz.f3.params.toList ++ Rows.topSortedSpec.plain.varTypes Tryz.prog).any (Tryz.prog.ifacesRec ·)) && ((Rows.topSortedRow.mapsOut == Tryz.prog.mapsAmong Tryz.f3.resultTypes.toList) && ((Rows.topSortedRow.loops == (Tryz.f3.params.toList ++ Rows.topSortedSpec.plain.varTypes Tryz.prog).any (Tryz.prog.loopsFrom ·)) && (Rows.topSortedRow.wideKeys == (Tryz.f3.params.toList ++ Rows.topSortedSpec.plain.varTypes Tryz.prog ++ Tryz.f3.resultTypes.toList).any (Tryz.prog.wideKeysFrom ·)))))) = true := by kernel_rfl
theorem j9 : (Rows.topSortedSpec.vars.all (Tryz.prog.varReadable ·) && (Tryz.f3.resultTypes.all (fun t => Tryz.prog.readableRec t && decide (t < Tryz.prog.types.size)) && ((Rows.topSortedRow.ifacesOut == Tryz.f3.resultTypes.toList.any (Tryz.prog.ifacesRec ·)) && ((Rows.topSortedRow.loopsOut == Tryz.f3.resultTypes.toList.any (Tryz.prog.loopsFrom ·)) && ((Rows.topSortedRow.plainKeys == Tryz.prog.plainKeys) && Rows.topSortedRow.shortTexts.isNone))))) = true := by kernel_rfl
theorem j10 : Tryz.prog.stopsHeard = true := by kernel_rfl
theorem j11 : Tryz.prog.mayEnter = true := by kernel_rfl
theorem j12 : ((Rows.topSortedRow.lifted == Tryz.prog.liftsFinal) && ((Tryz.prog.make == some Rows.topSortedRow.make) && ((Rows.topSortedRow.kinds == kindsOf Tryz.prog Tryz.f3 Rows.topSortedRow) && (Rows.topSortedRow.pinned == Rows.topSortedRow.pinnedBy)))) = true := by kernel_rfl
theorem j13 : ((Rows.topSortedRow.veiled == (Tryz.f3.params.toList ++ Rows.topSortedSpec.plain.varTypes Tryz.prog ++ Tryz.f3.resultTypes.toList).any (Tryz.prog.veiledRec ·)) && Rows.topSortedRow.veiledFits Tryz.prog Tryz.f3.params.toList (Tryz.f3.params.toList ++ Rows.topSortedSpec.plain.varTypes Tryz.prog ++ Tryz.f3.resultTypes.toList)) = true := by kernel_rfl
theorem joined : joinedFacts Tryz.prog 3 Tryz.f3 Rows.topSortedSpec Rows.topSortedRow = true := joined_of (P := Tryz.prog) (f := 3) (fn := Tryz.f3) (s := Rows.topSortedSpec) (c := Rows.topSortedRow) j0 laidOut j2 j3 j4 j5 j6 j7 j8 j9 j10 j11 j12 j13
theorem over : Rows.topSortedRow.holds Tryz.pinned (OpenSpec.ofChange Rows.topSortedSpec) :=
  OpenClaim.holds_of_wide 3 Tryz.f3 rfl rfl rfl rfl rfl rfl rfl ⟨rfl, rfl, rfl, rfl, rfl⟩ rfl rfl rfl rfl rfl (by kernel_rfl) Tryz.func3 joined
    (of_decide_eq_true (by kernel_rfl)) (by unfold Func.isWrapper; first | (rw [if_pos (by decide +kernel)]; kernel_rfl) | (rw [if_neg (by decide +kernel)]; exact ⟨rfl, rfl⟩))
    (fun os started H enc _ => lifted os started H enc)
theorem proved : Rows.TopSortedSaid := over
#print axioms proved
end Go.Proofs.YtniflenfpbbikaaGreat.topSorted
