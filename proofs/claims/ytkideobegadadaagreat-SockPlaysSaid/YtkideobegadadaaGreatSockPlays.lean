/- 'Rows.SockPlaysSaid'. -/
import Derived.Test.YtkideobegadadaaGreatRows
import Derived.Test.YtkideobegadadaaGreatA2
import Derived.Test.YtkideobegadadaaGreatK
import Derived.Test.YtkideobegadadaaGreatB0
import Derived.Test.YtkideobegadadaaGreatB1
import Derived.Test.YtkideobegadadaaGreatB2
import Derived.Test.YtkideobegadadaaGreatB3
import Derived.Test.YtkideobegadadaaGreatB4
import Derived.Test.YtkideobegadadaaGreatB5
import Derived.Test.YtkideobegadadaaGreatB6
import Derived.Test.YtkideobegadadaaGreatB7
import Derived.Test.YtkideobegadadaaGreatB8
namespace Go.Proofs.YtkideobegadadaaGreat.sockPlays
open Go.ChangeShapes Go.WideShapes Go.ChangeAt Go.RowKit Go.X
set_option linter.unusedVariables false
theorem own : ownKnob Tryz.prog.godebug = none := by kernel_rfl
theorem laidOut : laidOutB Tryz.prog = true := by kernel_rfl
theorem walk (a0 : Int) (w0 : (Lit.int .i64 a0).wf = true) (a1 : Ks.T K_i4u2bi2) (g1 : rowOk (Ks.mk K_i4u2bi2 a1)) (s2 : Sl) (x2 : List (Ks.T K_i2u2s × List (Ks.T [.int .u64, .int .u64]))) (n2 : Nrm s2) (l2 : s2.len = x2.length) (c2 : s2.len ≤ s2.cap) (m2 : x2.length ≤ maxLen) (g2 : ∀ p ∈ x2, rowOk (Ks.mk K_i2u2s p.1) ∧ p.2.length ≤ maxLen ∧ (∀ y ∈ p.2, rowOk (Ks.mk [.int .u64, .int .u64] y)) ∧ ((fun z : Ks.T K_i2u2s => z.2.2.2.2) p.1).len ≤ ((fun z : Ks.T K_i2u2s => z.2.2.2.2) p.1).cap) (a3 : Bool) (w : World) (h2 : SlRd w s2 5 (flat K_i2u2s (x2.map Prod.fst))) (k2 : ∀ p ∈ x2, SlRd w ((fun z : Ks.T K_i2u2s => z.2.2.2.2) p.1) 2 (flat [.int .u64, .int .u64] p.2) ∧ ((fun z : Ks.T K_i2u2s => z.2.2.2.2) p.1).len = p.2.length) :
    Calls Tryz.prog 5 #[.int .i64 a0, (V1.agg (Ks.mk K_i4u2bi2 a1)).enc, (Lf.sl s2).enc, .bool a3] w fun e w' => e = .returned (.bool true) ∧ Below w.heap.size w w' := by
  have t := law_read (w := w) (RsK.plays_tri a0 a1 s2 a3 x2 (Conf.okC_of fun k n hl => g1 _ hl) (Wf.i (g1 _ (List.mem_of_getElem? (i := 7) (a := .int .i64 (Conf.cCap a1)) rfl))) (Wf.i (g1 _ (List.mem_of_getElem? (i := 8) (a := .int .i64 (Conf.cMss a1)) rfl))).2 (fun p hp => SockV.okO_of fun k n hl => (g2 p hp).1 _ hl)) (readOk_star (readOk_rarr h2 (by rw [List.length_map]; exact l2)) (readOk_rl fun p hp => readOk_rarr (k2 p hp).1 (k2 p hp).2))
  exact t
set_option maxRecDepth 100000 in
theorem lifted (os : Os) (started : os.Started) (H : Type) (enc : TypeId × Value → H) :
    ReturnsInHanded {} Tryz.checked os 5 .any (Rows.sockPlaysSpec.pre6 enc Tryz.prog Tryz.f5 Rows.sockPlaysRow.domain false) (Rows.sockPlaysSpec.post enc Tryz.prog Tryz.f5 false true false false) := by
  refine returnsInHanded_of_change (C := Tryz.checked) own started (by kernel_rfl) Tryz.func5
    (ChangeSpec.witness6 (enc := enc) (C := Tryz.checked) false ⟨#[], #[.int .i64 0, (V1.agg [.int .i64 0, .int .i64 0, .int .i64 0, .int .i64 0, .int .u64 0, .int .u64 0, .bool false, .int .i64 0, .int .i64 0]).enc, .slice none 0 0, .bool false], []⟩ 5 (by kernel_rfl) (by kernel_rfl) (by kernel_rfl) (by kernel_rfl)) ?_
  intro W base args ds gs before hval0 hW hcnd _
  have hval : ∀ (j : Nat) t v, Tryz.f5.params[j]? = some t → args[j]? = some v → Value.okWide Tryz.prog W .any base t v := hval0
  have hW' := hW
  obtain ⟨p, q, hA0, hV, rfl, hfz, hnd⟩ := hW
  have hA : DataW.TrodAll enc Tryz.prog W 0 (fun _ => true) true Tryz.f5.params.toList args.toList ds p := hA0
  rw [Tryz.params5] at hA hval
  obtain ⟨v0, vs0, d0, ds0, p0, q0, hargs, rfl, rfl, h0, r0⟩ := trodAll_cons hA
  obtain ⟨v1, vs1, d1, ds1, p1, q1, rfl, rfl, rfl, h1, r1⟩ := trodAll_cons r0
  obtain ⟨v2, vs2, d2, ds2, p2, q2, rfl, rfl, rfl, h2, r2⟩ := trodAll_cons r1
  obtain ⟨v3, vs3, d3, ds3, p3, q3, rfl, rfl, rfl, h3, r3⟩ := trodAll_cons r2
  obtain ⟨rfl, rfl, rfl⟩ := trodAll_nil r3
  obtain rfl : args = #[v0, v1, v2, v3] := by cases args; simp_all
  obtain ⟨rfl, rfl⟩ := trodVars_none hV
  obtain ⟨a0, rfl, rfl, rfl, w0⟩ := open_int Tryz.underlying3 (hval 0 3 v0 rfl rfl) h0
  obtain ⟨a1, rfl, g1⟩ := row_rd 1 (ks := K_i4u2bi2) (t := 27) (ts := [3, 3, 3, 3, 22, 22, 4, 3, 3]) (by kernel_rfl) (by kernel_rfl) (by kernel_rfl) (hval 1 27 v1 rfl rfl) h1
  obtain ⟨s2, z2, rfl, n2, k2, l2, m2, g2⟩ := rows_rd 2 (ks := K_i2u2s) Tryz.underlying43 (ts := [3, 3, 22, 22, 45]) (by kernel_rfl) (by kernel_rfl) (by kernel_rfl) (by simp) (hval 2 43 v2 rfl rfl) h2
  obtain ⟨x2, hx2, hp2⟩ := nest_rd (n := 0) (ks := K_i2u2s) (ks' := [.int .u64, .int .u64]) (ts' := [22, 22]) 4 (fun z : Ks.T K_i2u2s => z.2.2.2.2) (fun _ => rfl) (u := 45) rfl Tryz.underlying45 (by kernel_rfl) (by kernel_rfl) (by kernel_rfl) (by simp) g2 (by simp)
  rw [← hx2] at k2 l2 m2
  rw [List.length_map] at l2 m2
  obtain ⟨a3, rfl, rfl, rfl⟩ := open_bool Tryz.underlying4 (hval 3 4 v3 rfl rfl) h3
  have c2 := cap_rd Tryz.underlying43 n2 (hval 2 43 _ rfl rfl)
  clear hA0 hval0
  refine (walk a0 w0 a1 (rowOk_of g1 (by simp [Ks.len])) s2 x2 n2 l2 c2 m2 (fun p hp => ⟨(hp2 p hp).1, (hp2 p hp).2.2.2.1, (hp2 p hp).2.2.2.2⟩) a3 W k2 (fun p hp => ⟨(hp2 p hp).2.1, (hp2 p hp).2.2.1⟩)).mono fun e W' ⟨he, hg⟩ => ?_
  subst he
  have hlt1 : ∀ x ∈ p1, x.block < W.heap.size := fun x hx => by simpa using hW'.lt x (by simp [hx])
  have hlt2 : ∀ x ∈ p2, x.block < W.heap.size := fun x hx => by simpa using hW'.lt x (by simp [hx])
  exact ⟨_, rfl, post_of_below hW' (fun _ _ _ => trodAll_cons_mk (shut_bool Tryz.underlying4 _) trodAll_mk0)
    (trodAll_cons_mk (shut_int Tryz.underlying3 w0) (trodAll_cons_mk (Below.trod laidOut (by kernel_rfl) (of_decide_eq_true (by kernel_rfl)) h1 hg hlt1) (trodAll_cons_mk (Below.trod laidOut (by kernel_rfl) (of_decide_eq_true (by kernel_rfl)) h2 hg hlt2) (trodAll_cons_mk (shut_bool Tryz.underlying4 _) trodAll_mk0)))) rfl rfl hg⟩
theorem j0 : Rows.sockPlaysRow.wf (OpenSpec.ofChange Rows.sockPlaysSpec) = true := by kernel_rfl
theorem j2 : mapsRowed Tryz.prog = true := by kernel_rfl
theorem j3 : (Tryz.f5.params.all (Tryz.prog.readableRec ·) && (namedTie Tryz.prog Rows.sockPlaysRow.named Rows.sockPlaysSpec.vars && ((Rows.sockPlaysRow.stops == []) && ((Tryz.prog.stops == []) && ((Rows.sockPlaysRow.knobs == []) && (Tryz.prog.stopKnobs == [])))))) = true := by kernel_rfl
theorem j4 : (Rows.sockPlaysRow.inPlace == Tryz.prog.inPlace 5) = true := by kernel_rfl
theorem j5 : (Rows.sockPlaysRow.unfollowed == Tryz.prog.unfollowed 5) = true := by kernel_rfl
theorem j6 : (Rows.sockPlaysRow.recurses == Tryz.prog.recurses 5) = true := by kernel_rfl
theorem j7 : (Rows.sockPlaysRow.named == Tryz.prog.varsNamed 5) = true := by kernel_rfl
theorem j8 : ((Rows.sockPlaysRow.maps == (Tryz.f5.params.toList ++ Rows.sockPlaysSpec.plain.varTypes Tryz.prog).any (Tryz.prog.mapsRec ·)) && ((Rows.sockPlaysRow.ifaces == (Tryz.f5.params.toList ++ Rows.sockPlaysSpec.plain.varTypes Tryz.prog).any (Tryz.prog.ifacesRec ·)) && ((Rows.sockPlaysRow.mapsOut == Tryz.prog.mapsAmong Tryz.f5.resultTypes.toList) && ((Rows.sockPlaysRow.loops == (Tryz.f5.params.toList ++ Rows.sockPlaysSpec.plain.varTypes Tryz.prog).any (Tryz.prog.loopsFrom ·)) && (Rows.sockPlaysRow.wideKeys == (Tryz.f5.params.toList ++ Rows.sockPlaysSpec.plain.varTypes Tryz.prog ++ Tryz.f5.resultTypes.toList).any (Tryz.prog.wideKeysFrom ·)))))) = true := by kernel_rfl
theorem j9 : (Rows.sockPlaysSpec.vars.all (Tryz.prog.varReadable ·) && (Tryz.f5.resultTypes.all (fun t => Tryz.prog.readableRec t && decide (t < Tryz.prog.types.size)) && ((Rows.sockPlaysRow.ifacesOut == Tryz.f5.resultTypes.toList.any (Tryz.prog.ifacesRec ·)) && ((Rows.sockPlaysRow.loopsOut == Tryz.f5.resultTypes.toList.any (Tryz.prog.loopsFrom ·)) && ((Rows.sockPlaysRow.plainKeys == Tryz.prog.plainKeys) && Rows.sockPlaysRow.shortTexts.isNone))))) = true := by kernel_rfl
theorem j10 : Tryz.prog.stopsHeard = true := by kernel_rfl
theorem j11 : Tryz.prog.mayEnter = true := by kernel_rfl
theorem j12 : ((Rows.sockPlaysRow.lifted == Tryz.prog.liftsFinal) && ((Tryz.prog.make == some Rows.sockPlaysRow.make) && ((Rows.sockPlaysRow.kinds == kindsOf Tryz.prog Tryz.f5 Rows.sockPlaysRow) && (Rows.sockPlaysRow.pinned == Rows.sockPlaysRow.pinnedBy)))) = true := by kernel_rfl
theorem j13 : ((Rows.sockPlaysRow.veiled == (Tryz.f5.params.toList ++ Rows.sockPlaysSpec.plain.varTypes Tryz.prog ++ Tryz.f5.resultTypes.toList).any (Tryz.prog.veiledRec ·)) && Rows.sockPlaysRow.veiledFits Tryz.prog Tryz.f5.params.toList (Tryz.f5.params.toList ++ Rows.sockPlaysSpec.plain.varTypes Tryz.prog ++ Tryz.f5.resultTypes.toList)) = true := by kernel_rfl
theorem joined : joinedFacts Tryz.prog 5 Tryz.f5 Rows.sockPlaysSpec Rows.sockPlaysRow = true := joined_of (P := Tryz.prog) (f := 5) (fn := Tryz.f5) (s := Rows.sockPlaysSpec) (c := Rows.sockPlaysRow) j0 laidOut j2 j3 j4 j5 j6 j7 j8 j9 j10 j11 j12 j13
theorem over : Rows.sockPlaysRow.holds Tryz.pinned (OpenSpec.ofChange Rows.sockPlaysSpec) :=
  OpenClaim.holds_of_wide 5 Tryz.f5 rfl rfl rfl rfl rfl rfl rfl ⟨rfl, rfl, rfl, rfl, rfl⟩ rfl rfl rfl rfl rfl (by kernel_rfl) Tryz.func5 joined
    (of_decide_eq_true (by kernel_rfl)) (by unfold Func.isWrapper; first | (rw [if_pos (by decide +kernel)]; kernel_rfl) | (rw [if_neg (by decide +kernel)]; exact ⟨rfl, rfl⟩))
    (fun os started H enc _ => lifted os started H enc)
theorem proved : Rows.SockPlaysSaid := over
#print axioms proved
end Go.Proofs.YtkideobegadadaaGreat.sockPlays
