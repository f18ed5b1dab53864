/- 'Rows.ScriptPlainSaid'. -/
import Derived.Test.YtniflenfpbbikaaGreatDoorRows
import Derived.Test.YtniflenfpbbikaaGreatDoorA2
import Derived.Test.YtniflenfpbbikaaGreatDoorK
import Derived.Test.YtniflenfpbbikaaGreatDoorB0
import Derived.Test.YtniflenfpbbikaaGreatDoorB1
import Derived.Test.YtniflenfpbbikaaGreatDoorB2
import Derived.Test.YtniflenfpbbikaaGreatDoorB3
import Derived.Test.YtniflenfpbbikaaGreatDoorB4
import Derived.Test.YtniflenfpbbikaaGreatDoorB5
import Derived.Test.YtniflenfpbbikaaGreatDoorB6
import Derived.Test.YtniflenfpbbikaaGreatDoorB7
import Derived.Test.YtniflenfpbbikaaGreatDoorB8
import Derived.Test.YtniflenfpbbikaaGreatDoorB9
import Derived.Test.YtniflenfpbbikaaGreatDoorCards
import Derived.Test.YtniflenfpbbikaaGreatDoorTie
import Derived.Lay
import Derived.SevenTiedAt
import Derived.Handed
import Derived.Lib.LaidTab
import Derived.Stop.LaidErr
namespace Go.Proofs.YtniflenfpbbikaaGreatDoor.scriptPlain
open Go.ChangeShapes Go.WideShapes Go.ChangeAt Go.RowKit Go.X
set_option linter.unusedVariables false
theorem own : ownKnob Tryz.prog.godebug = none := by kernel_rfl
theorem laidOut : laidOutB Tryz.prog = true := by kernel_rfl
theorem walk (s0 : Sl) (x0 : List (Ks.T K_i3u2si4u2bi2 × List (Ks.T [.int .u64, .int .u64]))) (n0 : Nrm s0) (l0 : s0.len = x0.length) (c0 : s0.len ≤ s0.cap) (m0 : x0.length ≤ maxLen) (g0 : ∀ p ∈ x0, rowOk (Ks.mk K_i3u2si4u2bi2 p.1) ∧ p.2.length ≤ maxLen ∧ (∀ y ∈ p.2, rowOk (Ks.mk [.int .u64, .int .u64] y)) ∧ ((fun z : Ks.T K_i3u2si4u2bi2 => z.2.2.2.2.2.1) p.1).len ≤ ((fun z : Ks.T K_i3u2si4u2bi2 => z.2.2.2.2.2.1) p.1).cap) (w : World) (h0 : SlRd w s0 15 (flat K_i3u2si4u2bi2 (x0.map Prod.fst))) (k0 : ∀ p ∈ x0, SlRd w ((fun z : Ks.T K_i3u2si4u2bi2 => z.2.2.2.2.2.1) p.1) 2 (flat [.int .u64, .int .u64] p.2) ∧ ((fun z : Ks.T K_i3u2si4u2bi2 => z.2.2.2.2.2.1) p.1).len = p.2.length) :
    Calls Tryz.prog 5 #[(Lf.sl s0).enc] w fun e w' => e = .returned (.bool true) ∧ Below w.heap.size w w' := by
  have t := law_read (w := w) (ScT.plain_tri s0 x0 (fun p hp => EgG.okE_of (fun k n hl => (g0 p hp).1 _ hl) (g0 p hp).2.1 (g0 p hp).2.2.2)) (readOk_star (readOk_rarr h0 (by rw [List.length_map]; exact l0)) (readOk_rl fun p hp => readOk_rarr (k0 p hp).1 (k0 p hp).2))
  exact t
theorem met (os : Os) (args : Array Value) : laidMet Tryz.prog Rows.scriptPlainRow.laid ((World.laidAll Tryz.prog os Rows.scriptPlainRow.laid).forCall (fun _ _ => 0) ⟨#[], args, []⟩).memory := laidMet_laidAll args (by kernel_rfl) (by kernel_rfl)
set_option maxRecDepth 100000 in
theorem lifted (os : Os) (started : os.Started) (H : Type) (enc : TypeId × Value → H) :
    ReturnsInHanded {} Tryz.checked os 5 .any (fun w args => (Rows.scriptPlainSpec.pre enc Tryz.prog Tryz.f5 [] false w args ∧ laidMetH Tryz.prog Rows.scriptPlainRow.laid w) ∧ sizedMet enc Tryz.prog Tryz.f5 (OpenSpec.ofChange Rows.scriptPlainSpec) false w args) (Rows.scriptPlainSpec.post enc Tryz.prog Tryz.f5 false true false false) := by
  refine returnsInHanded_of_change_and (C := Tryz.checked) (X := fun w _ => laidMetH Tryz.prog Rows.scriptPlainRow.laid w) (fun _ _ _ hh h => h.of_heap hh) own started (by kernel_rfl) Tryz.func5
    (ChangeSpec.witness_at (enc := enc) (C := Tryz.checked) (os := os) (X := fun w _ => laidMetH Tryz.prog Rows.scriptPlainRow.laid w) false (World.laidAll Tryz.prog os Rows.scriptPlainRow.laid) #[.slice none 0 0] 8 (World.laidAll_os _ _ _) (by kernel_rfl) (by kernel_rfl) (by kernel_rfl) (by kernel_rfl) (by kernel_rfl) (met os _)) ?_
  intro W base args ds gs before hval0 hW hcnd hwt hL _
  have hval : ∀ (j : Nat) t v, Tryz.f5.params[j]? = some t → args[j]? = some v → Value.okWide Tryz.prog W .any base t v := hval0
  have hW' := hW
  obtain ⟨p, q, hA0, hV, rfl, hfz, hnd⟩ := hW
  have hA : DataW.TrodAll enc Tryz.prog W 0 (fun _ => true) true Tryz.f5.params.toList args.toList ds p := hA0
  rw [Tryz.params5] at hA hval
  obtain ⟨v0, vs0, d0, ds0, p0, q0, hargs, rfl, rfl, h0, r0⟩ := trodAll_cons hA
  obtain ⟨rfl, rfl, rfl⟩ := trodAll_nil r0
  obtain rfl : args = #[v0] := by cases args; simp_all
  obtain ⟨rfl, rfl⟩ := trodVars_none hV
  obtain ⟨s0, z0, rfl, n0, k0, l0, m0, g0⟩ := rows_rd 2 (ks := K_i3u2si4u2bi2) Tryz.underlying25 (ts := [3, 3, 3, 22, 22, 50, 3, 3, 3, 3, 22, 22, 4, 3, 3]) (by kernel_rfl) (by kernel_rfl) (by kernel_rfl) (by simp) (hval 0 25 v0 rfl rfl) h0
  obtain ⟨x0, hx0, hp0⟩ := nest_rd (n := 0) (ks := K_i3u2si4u2bi2) (ks' := [.int .u64, .int .u64]) (ts' := [22, 22]) 5 (fun z : Ks.T K_i3u2si4u2bi2 => z.2.2.2.2.2.1) (fun _ => rfl) (u := 50) rfl Tryz.underlying50 (by kernel_rfl) (by kernel_rfl) (by kernel_rfl) (by simp) g0 (by simp)
  rw [← hx0] at k0 l0 m0
  rw [List.length_map] at l0 m0
  have c0 := cap_rd Tryz.underlying25 n0 (hval 0 25 _ rfl rfl)
  clear hA0 hval0
  refine (walk s0 x0 n0 l0 c0 m0 (fun p hp => ⟨(hp0 p hp).1, (hp0 p hp).2.2.2.1, (hp0 p hp).2.2.2.2⟩) W k0 (fun p hp => ⟨(hp0 p hp).2.1, (hp0 p hp).2.2.1⟩)).mono fun e W' ⟨he, hg⟩ => ?_
  subst he
  have hlt0 : ∀ x ∈ p0, x.block < W.heap.size := fun x hx => by simpa using hW'.lt x (by simp [hx])
  exact ⟨_, rfl, post_of_below hW' (fun _ _ _ => trodAll_cons_mk (shut_bool Tryz.underlying4 _) trodAll_mk0)
    (trodAll_cons_mk (Below.trod laidOut (by kernel_rfl) (of_decide_eq_true (by kernel_rfl)) h0 hg hlt0) trodAll_mk0) rfl rfl hg⟩
theorem j0 : Rows.scriptPlainRow.wf (OpenSpec.ofChange Rows.scriptPlainSpec) = true := by kernel_rfl
theorem j2 : mapsRowed Tryz.prog = true := by kernel_rfl
theorem j3 : (Tryz.f5.params.all (Tryz.prog.readableRec ·) && (namedTie Tryz.prog Rows.scriptPlainRow.named Rows.scriptPlainSpec.vars && ((Rows.scriptPlainRow.stops == []) && ((Tryz.prog.stops == []) && ((Rows.scriptPlainRow.knobs == []) && (Tryz.prog.stopKnobs == [])))))) = true := by kernel_rfl
theorem j4 : (Rows.scriptPlainRow.inPlace == Tryz.prog.inPlace 5) = true := by kernel_rfl
theorem j5 : (Rows.scriptPlainRow.unfollowed == Tryz.prog.unfollowed 5) = true := by kernel_rfl
theorem j6 : (Rows.scriptPlainRow.recurses == Tryz.prog.recurses 5) = true := by kernel_rfl
theorem j7 : (Rows.scriptPlainRow.named == Tryz.prog.varsNamed 5) = true := by kernel_rfl
theorem j8 : ((Rows.scriptPlainRow.maps == (Tryz.f5.params.toList ++ Rows.scriptPlainSpec.plain.varTypes Tryz.prog).any (Tryz.prog.mapsRec ·)) && ((Rows.scriptPlainRow.ifaces == (Tryz.f5.params.toList ++ Rows.scriptPlainSpec.plain.varTypes Tryz.prog).any (Tryz.prog.ifacesRec ·)) && ((Rows.scriptPlainRow.mapsOut == Tryz.prog.mapsAmong Tryz.f5.resultTypes.toList) && ((Rows.scriptPlainRow.loops == (Tryz.f5.params.toList ++ Rows.scriptPlainSpec.plain.varTypes Tryz.prog).any (Tryz.prog.loopsFrom ·)) && (Rows.scriptPlainRow.wideKeys == (Tryz.f5.params.toList ++ Rows.scriptPlainSpec.plain.varTypes Tryz.prog ++ Tryz.f5.resultTypes.toList).any (Tryz.prog.wideKeysFrom ·)))))) = true := by kernel_rfl
theorem j9 : (Rows.scriptPlainSpec.vars.all (Tryz.prog.varReadable ·) && (Tryz.f5.resultTypes.all (fun t => Tryz.prog.readableRec t && decide (t < Tryz.prog.types.size)) && ((Rows.scriptPlainRow.ifacesOut == Tryz.f5.resultTypes.toList.any (Tryz.prog.ifacesRec ·)) && ((Rows.scriptPlainRow.loopsOut == Tryz.f5.resultTypes.toList.any (Tryz.prog.loopsFrom ·)) && ((Rows.scriptPlainRow.plainKeys == Tryz.prog.plainKeys) && Rows.scriptPlainRow.shortTexts.isNone))))) = true := by kernel_rfl
theorem j10 : Tryz.prog.stopsHeard = true := by kernel_rfl
theorem j11 : Tryz.prog.mayEnter = true := by kernel_rfl
theorem j12 : ((Rows.scriptPlainRow.lifted == Tryz.prog.liftsFinal) && ((Tryz.prog.make == some Rows.scriptPlainRow.make) && ((Rows.scriptPlainRow.kinds == kindsOf Tryz.prog Tryz.f5 Rows.scriptPlainRow) && (Rows.scriptPlainRow.pinned == Rows.scriptPlainRow.pinnedBy)))) = true := by kernel_rfl
theorem j13 : ((Rows.scriptPlainRow.veiled == (Tryz.f5.params.toList ++ Rows.scriptPlainSpec.plain.varTypes Tryz.prog ++ Tryz.f5.resultTypes.toList).any (Tryz.prog.veiledRec ·)) && Rows.scriptPlainRow.veiledFits Tryz.prog Tryz.f5.params.toList (Tryz.f5.params.toList ++ Rows.scriptPlainSpec.plain.varTypes Tryz.prog ++ Tryz.f5.resultTypes.toList)) = true := by kernel_rfl
theorem joined : joinedFacts Tryz.prog 5 Tryz.f5 Rows.scriptPlainSpec Rows.scriptPlainRow = true := joined_of (P := Tryz.prog) (f := 5) (fn := Tryz.f5) (s := Rows.scriptPlainSpec) (c := Rows.scriptPlainRow) j0 laidOut j2 j3 j4 j5 j6 j7 j8 j9 j10 j11 j12 j13
theorem over : Rows.scriptPlainRow.holds Tryz.pinned (OpenSpec.ofChange Rows.scriptPlainSpec) :=
  OpenClaim.holds_of_wide 5 Tryz.f5 rfl rfl rfl rfl rfl rfl rfl ⟨rfl, rfl, rfl, rfl, rfl⟩ rfl rfl rfl rfl rfl (by kernel_rfl) Tryz.func5 joined
    (of_decide_eq_true (by kernel_rfl)) (by unfold Func.isWrapper; first | (rw [if_pos (by decide +kernel)]; kernel_rfl) | (rw [if_neg (by decide +kernel)]; exact ⟨rfl, rfl⟩))
    (fun os started H enc _ => lifted os started H enc)
theorem proved : Rows.ScriptPlainCardSaid :=
  Claim7.holds_tied_plain_at .later [] [.data, .data, .data] true (true, "b1cd2660582d3db3e85a91e6ac0083f9740846f249edf76ce50399a621ce35ad") false
    over (fun _ h => by cases h) (by kernel_rfl) (fun _ h => by cases h) scriptPlain_row_tie rfl ⟨rfl, rfl⟩ (by kernel_rfl) rfl
    (fun f fn hf hfn => by
      obtain rfl : f = 5 := Option.some.inj ((show Tryz.prog.funcNamed Rows.scriptPlainRow.func = some 5 by kernel_rfl).symm.trans hf) |>.symm
      obtain rfl : fn = Tryz.f5 := (Option.some.inj (Tryz.func5.symm.trans hfn)).symm
      exact ⟨by kernel_rfl, fun j t ht => by
        have hw : (Tryz.f5.params.toList.all fun t => Tryz.prog.wantsStandIn t == false) = true := by kernel_rfl
        have hm : t ∈ Tryz.f5.params.toList := List.mem_of_getElem? (i := j) (by rw [Array.getElem?_toList]; exact ht)
        have hz : Tryz.prog.wantsStandIn t = false := by simpa using List.all_eq_true.1 hw t hm
        exact hz⟩)
    (by kernel_rfl)
#print axioms proved
end Go.Proofs.YtniflenfpbbikaaGreatDoor.scriptPlain
