/- 'Rows.EgressClockSaid'. -/
import Derived.Test.YtaimlgfepkopkaaGreatRows
import Derived.Test.YtaimlgfepkopkaaGreatA2
import Derived.Test.YtaimlgfepkopkaaGreatK
import Derived.Test.YtaimlgfepkopkaaGreatB0
import Derived.Test.YtaimlgfepkopkaaGreatB1
import Derived.Test.YtaimlgfepkopkaaGreatB2
import Derived.Test.YtaimlgfepkopkaaGreatB3
import Derived.Test.YtaimlgfepkopkaaGreatB4
import Derived.Test.YtaimlgfepkopkaaGreatB5
import Derived.Test.YtaimlgfepkopkaaGreatB6
import Derived.Test.YtaimlgfepkopkaaGreatB7
import Derived.Test.YtaimlgfepkopkaaGreatB8
import Derived.Test.YtaimlgfepkopkaaGreatB9
namespace Go.Proofs.YtaimlgfepkopkaaGreat.egressClock
open Go.ChangeShapes Go.WideShapes Go.ChangeAt Go.RowKit Go.X
set_option linter.unusedVariables false
theorem own : ownKnob Tryz.prog.godebug = none := by kernel_rfl
theorem laidOut : laidOutB Tryz.prog = true := by kernel_rfl
theorem walk (s0 : Sl) (x0 : List (Ks.T K_i3u2si4u2bi2 × List (Ks.T [.int .u64, .int .u64]))) (n0 : Nrm s0) (l0 : s0.len = x0.length) (c0 : s0.len ≤ s0.cap) (m0 : x0.length ≤ maxLen) (g0 : ∀ p ∈ x0, rowOk (Ks.mk K_i3u2si4u2bi2 p.1) ∧ p.2.length ≤ maxLen ∧ (∀ y ∈ p.2, rowOk (Ks.mk [.int .u64, .int .u64] y)) ∧ ((fun z : Ks.T K_i3u2si4u2bi2 => z.2.2.2.2.2.1) p.1).len ≤ ((fun z : Ks.T K_i3u2si4u2bi2 => z.2.2.2.2.2.1) p.1).cap) (w : World) (h0 : SlRd w s0 15 (flat K_i3u2si4u2bi2 (x0.map Prod.fst))) (k0 : ∀ p ∈ x0, SlRd w ((fun z : Ks.T K_i3u2si4u2bi2 => z.2.2.2.2.2.1) p.1) 2 (flat [.int .u64, .int .u64] p.2) ∧ ((fun z : Ks.T K_i3u2si4u2bi2 => z.2.2.2.2.2.1) p.1).len = p.2.length) :
    Calls Tryz.prog 6 #[(Lf.sl s0).enc] w fun e w' => e = .returned (.bool true) ∧ Below w.heap.size w w' := by
  have t := law_read (w := w) (EgI.clock_tri s0 x0 (fun p hp => EgG.okE_of (fun k n hl => (g0 p hp).1 _ hl) (g0 p hp).2.1 (g0 p hp).2.2.2)) (readOk_star (readOk_rarr h0 (by rw [List.length_map]; exact l0)) (readOk_rl fun p hp => readOk_rarr (k0 p hp).1 (k0 p hp).2))
  exact t
set_option maxRecDepth 100000 in
theorem lifted (os : Os) (started : os.Started) (H : Type) (enc : TypeId × Value → H) :
    ReturnsInHanded {} Tryz.checked os 6 .any (Rows.egressClockSpec.pre6 enc Tryz.prog Tryz.f6 Rows.egressClockRow.domain false) (Rows.egressClockSpec.post enc Tryz.prog Tryz.f6 false true false false) := by
  refine returnsInHanded_of_change (C := Tryz.checked) own started (by kernel_rfl) Tryz.func6
    (ChangeSpec.witness6 (enc := enc) (C := Tryz.checked) false ⟨#[], #[.slice none 0 0], []⟩ 6 (by kernel_rfl) (by kernel_rfl) (by kernel_rfl) (by kernel_rfl)) ?_
  intro W base args ds gs before hval0 hW hcnd _
  have hval : ∀ (j : Nat) t v, Tryz.f6.params[j]? = some t → args[j]? = some v → Value.okWide Tryz.prog W .any base t v := hval0
  have hW' := hW
  obtain ⟨p, q, hA0, hV, rfl, hfz, hnd⟩ := hW
  have hA : DataW.TrodAll enc Tryz.prog W 0 (fun _ => true) true Tryz.f6.params.toList args.toList ds p := hA0
  rw [Tryz.params6] at hA hval
  obtain ⟨v0, vs0, d0, ds0, p0, q0, hargs, rfl, rfl, h0, r0⟩ := trodAll_cons hA
  obtain ⟨rfl, rfl, rfl⟩ := trodAll_nil r0
  obtain rfl : args = #[v0] := by cases args; simp_all
  obtain ⟨rfl, rfl⟩ := trodVars_none hV
  obtain ⟨s0, z0, rfl, n0, k0, l0, m0, g0⟩ := rows_rd 2 (ks := K_i3u2si4u2bi2) Tryz.underlying48 (ts := [3, 3, 3, 23, 23, 38, 3, 3, 3, 3, 23, 23, 4, 3, 3]) (by kernel_rfl) (by kernel_rfl) (by kernel_rfl) (by simp) (hval 0 48 v0 rfl rfl) h0
  obtain ⟨x0, hx0, hp0⟩ := nest_rd (n := 0) (ks := K_i3u2si4u2bi2) (ks' := [.int .u64, .int .u64]) (ts' := [23, 23]) 5 (fun z : Ks.T K_i3u2si4u2bi2 => z.2.2.2.2.2.1) (fun _ => rfl) (u := 38) rfl Tryz.underlying38 (by kernel_rfl) (by kernel_rfl) (by kernel_rfl) (by simp) g0 (by simp)
  rw [← hx0] at k0 l0 m0
  rw [List.length_map] at l0 m0
  have c0 := cap_rd Tryz.underlying48 n0 (hval 0 48 _ rfl rfl)
  clear hA0 hval0
  refine (walk s0 x0 n0 l0 c0 m0 (fun p hp => ⟨(hp0 p hp).1, (hp0 p hp).2.2.2.1, (hp0 p hp).2.2.2.2⟩) W k0 (fun p hp => ⟨(hp0 p hp).2.1, (hp0 p hp).2.2.1⟩)).mono fun e W' ⟨he, hg⟩ => ?_
  subst he
  have hlt0 : ∀ x ∈ p0, x.block < W.heap.size := fun x hx => by simpa using hW'.lt x (by simp [hx])
  exact ⟨_, rfl, post_of_below hW' (fun _ _ _ => trodAll_cons_mk (shut_bool Tryz.underlying4 _) trodAll_mk0)
    (trodAll_cons_mk (Below.trod laidOut (by kernel_rfl) (of_decide_eq_true (by kernel_rfl)) h0 hg hlt0) trodAll_mk0) rfl rfl hg⟩
theorem j0 : Rows.egressClockRow.wf (OpenSpec.ofChange Rows.egressClockSpec) = true := by kernel_rfl
theorem j2 : mapsRowed Tryz.prog = true := by kernel_rfl
theorem j3 : (Tryz.f6.params.all (Tryz.prog.readableRec ·) && (namedTie Tryz.prog Rows.egressClockRow.named Rows.egressClockSpec.vars && ((Rows.egressClockRow.stops == []) && ((Tryz.prog.stops == []) && ((Rows.egressClockRow.knobs == []) && (Tryz.prog.stopKnobs == [])))))) = true := by kernel_rfl
theorem j4 : (Rows.egressClockRow.inPlace == Tryz.prog.inPlace 6) = true := by kernel_rfl
theorem j5 : (Rows.egressClockRow.unfollowed == Tryz.prog.unfollowed 6) = true := by kernel_rfl
theorem j6 : (Rows.egressClockRow.recurses == Tryz.prog.recurses 6) = true := by kernel_rfl
theorem j7 : (Rows.egressClockRow.named == Tryz.prog.varsNamed 6) = true := by kernel_rfl
theorem j8 : ((Rows.egressClockRow.maps == (Tryz.f6.params.toList ++ Rows.egressClockSpec.plain.varTypes Tryz.prog).any (Tryz.prog.mapsRec ·)) && ((Rows.egressClockRow.ifaces == (Tryz.f6.params.toList ++ Rows.egressClockSpec.plain.varTypes Tryz.prog).any (Tryz.prog.ifacesRec ·)) && ((Rows.egressClockRow.mapsOut == Tryz.prog.mapsAmong Tryz.f6.resultTypes.toList) && ((Rows.egressClockRow.loops == (Tryz.f6.params.toList ++ Rows.egressClockSpec.plain.varTypes Tryz.prog).any (Tryz.prog.loopsFrom ·)) && (Rows.egressClockRow.wideKeys == (Tryz.f6.params.toList ++ Rows.egressClockSpec.plain.varTypes Tryz.prog ++ Tryz.f6.resultTypes.toList).any (Tryz.prog.wideKeysFrom ·)))))) = true := by kernel_rfl
theorem j9 : (Rows.egressClockSpec.vars.all (Tryz.prog.varReadable ·) && (Tryz.f6.resultTypes.all (fun t => Tryz.prog.readableRec t && decide (t < Tryz.prog.types.size)) && ((Rows.egressClockRow.ifacesOut == Tryz.f6.resultTypes.toList.any (Tryz.prog.ifacesRec ·)) && ((Rows.egressClockRow.loopsOut == Tryz.f6.resultTypes.toList.any (Tryz.prog.loopsFrom ·)) && ((Rows.egressClockRow.plainKeys == Tryz.prog.plainKeys) && Rows.egressClockRow.shortTexts.isNone))))) = true := by kernel_rfl
theorem j10 : Tryz.prog.stopsHeard = true := by kernel_rfl
theorem j11 : Tryz.prog.mayEnter = true := by kernel_rfl
theorem j12 : ((Rows.egressClockRow.lifted == Tryz.prog.liftsFinal) && ((Tryz.prog.make == some Rows.egressClockRow.make) && ((Rows.egressClockRow.kinds == kindsOf Tryz.prog Tryz.f6 Rows.egressClockRow) && (Rows.egressClockRow.pinned == Rows.egressClockRow.pinnedBy)))) = true := by kernel_rfl
theorem j13 : ((Rows.egressClockRow.veiled == (Tryz.f6.params.toList ++ Rows.egressClockSpec.plain.varTypes Tryz.prog ++ Tryz.f6.resultTypes.toList).any (Tryz.prog.veiledRec ·)) && Rows.egressClockRow.veiledFits Tryz.prog Tryz.f6.params.toList (Tryz.f6.params.toList ++ Rows.egressClockSpec.plain.varTypes Tryz.prog ++ Tryz.f6.resultTypes.toList)) = true := by kernel_rfl
theorem joined : joinedFacts Tryz.prog 6 Tryz.f6 Rows.egressClockSpec Rows.egressClockRow = true := joined_of (P := Tryz.prog) (f := 6) (fn := Tryz.f6) (s := Rows.egressClockSpec) (c := Rows.egressClockRow) j0 laidOut j2 j3 j4 j5 j6 j7 j8 j9 j10 j11 j12 j13
theorem over : Rows.egressClockRow.holds Tryz.pinned (OpenSpec.ofChange Rows.egressClockSpec) :=
  OpenClaim.holds_of_wide 6 Tryz.f6 rfl rfl rfl rfl rfl rfl rfl ⟨rfl, rfl, rfl, rfl, rfl⟩ rfl rfl rfl rfl rfl (by kernel_rfl) Tryz.func6 joined
    (of_decide_eq_true (by kernel_rfl)) (by unfold Func.isWrapper; first | (rw [if_pos (by decide +kernel)]; kernel_rfl) | (rw [if_neg (by decide +kernel)]; exact ⟨rfl, rfl⟩))
    (fun os started H enc _ => lifted os started H enc)
theorem proved : Rows.EgressClockSaid := over
#print axioms proved
end Go.Proofs.YtaimlgfepkopkaaGreat.egressClock
