/- 'Rows.ScriptRunsSaid'. -/
import Derived.Test.YtniflenfpbbikaaGreatDoorRows
import Derived.Test.YtniflenfpbbikaaGreatDoorCards
import Derived.Test.YtniflenfpbbikaaGreatDoorTie
import Derived.Lay
import Derived.SevenTiedAt
import Derived.Handed
import Derived.Lib.LaidTab
import Derived.Stop.LaidErr
import Derived.Test.YtniflenfpbbikaaGreatDoorB8
namespace Go.Proofs.YtniflenfpbbikaaGreatDoor.scriptRuns
open Go.ChangeShapes Go.WideShapes Go.ChangeAt Go.RowKit Go.X
set_option linter.all false
theorem own : ownKnob Tryz.prog.godebug = none := by kernel_rfl
theorem laidOut : laidOutB Tryz.prog = true := by kernel_rfl
theorem walk (a0 : Ks.T aZ) (g0 : x_ (Ks.mk aZ a0)) (s1 : Sl) (x1 : List (Ks.T a_ × List (Ks.T [.int .u64, .int .u64]))) (n1 : Cv s1) (l1 : s1.len = x1.length) (c1 : s1.len ≤ s1.cap) (m1 : x1.length ≤ maxLen) (g1 : ∀ p ∈ x1, x_ (Ks.mk a_ p.1) ∧ p.2.length ≤ maxLen ∧ (∀ y ∈ p.2, x_ (Ks.mk [.int .u64, .int .u64] y)) ∧ ((fun z : Ks.T a_ => z.2.2.2.2.2.1) p.1).len ≤ ((fun z : Ks.T a_ => z.2.2.2.2.2.1) p.1).cap) (a2 : Bool) (w : World) (h1 : nR w s1 15 (flat a_ (x1.map Prod.fst))) (k1 : ∀ p ∈ x1, nR w ((fun z : Ks.T a_ => z.2.2.2.2.2.1) p.1) 2 (flat [.int .u64, .int .u64] p.2) ∧ ((fun z : Ks.T a_ => z.2.2.2.2.2.1) p.1).len = p.2.length) :
    Calls Tryz.prog 3 #[(V1.agg (Ks.mk aZ a0)).enc, (Lf.sl s1).enc, .bool a2] w fun e w' => e = .returned (.bool true) ∧ Below w.heap.size w w' := by
  have t := M9 (w := w) (Zj.ON a0 s1 a2 x1 (F6.Wa fun k n hl => g0 _ hl) (fun p hp => Jv.Wb (fun k n hl => (g1 p hp).1 _ hl) (g1 p hp).2.1 (g1 p hp).2.2.2)) (x6 (x5 h1 (by rw [List.length_map]; exact l1)) (Ce fun p hp => x5 (k1 p hp).1 (k1 p hp).2))
  exact t
theorem met (os : Os) (args : Array Value) : laidMet Tryz.prog Rows.scriptRunsRow.laid ((World.laidAll Tryz.prog os Rows.scriptRunsRow.laid).forCall (fun _ _ => 0) ⟨#[], args, []⟩).memory := laidMet_laidAll args (by kernel_rfl) (by kernel_rfl)
set_option maxRecDepth 100000 in
theorem lifted (os : Os) (started : os.Started) (H : Type) (enc : TypeId × Value → H) :
    ReturnsInHanded {} Tryz.checked os 3 .any (fun w args => (Rows.scriptRunsSpec.pre enc Tryz.prog Tryz.f3 [] false w args ∧ laidMetH Tryz.prog Rows.scriptRunsRow.laid w) ∧ sizedMet enc Tryz.prog Tryz.f3 (OpenSpec.ofChange Rows.scriptRunsSpec) false w args) (Rows.scriptRunsSpec.post enc Tryz.prog Tryz.f3 false true false false) := by
  refine returnsInHanded_of_change_and (C := Tryz.checked) (X := fun w _ => laidMetH Tryz.prog Rows.scriptRunsRow.laid w) (fun _ _ _ hh h => h.of_heap hh) own started (by kernel_rfl) Tryz.func3
    (ChangeSpec.witness_at (enc := enc) (C := Tryz.checked) (os := os) (X := fun w _ => laidMetH Tryz.prog Rows.scriptRunsRow.laid w) false (World.laidAll Tryz.prog os Rows.scriptRunsRow.laid) #[(V1.agg [.int .i64 0, .int .i64 0, .int .i64 0, .int .i64 0, .int .u64 0, .int .u64 0, .bool false, .int .i64 0, .int .i64 0]).enc, .slice none 0 0, .bool false] 8 (World.laidAll_os _ _ _) (by kernel_rfl) (by kernel_rfl) (by kernel_rfl) (by kernel_rfl) (by kernel_rfl) (met os _)) ?_
  intro W base args ds gs before hval0 hW hcnd hwt hL _
  have hval : ∀ (j : Nat) t v, Tryz.f3.params[j]? = some t → args[j]? = some v → Value.okWide Tryz.prog W .any base t v := hval0
  have hW' := hW
  obtain ⟨p, q, hA0, hV, rfl, hfz, hnd⟩ := hW
  have hA : DataW.TrodAll enc Tryz.prog W 0 (fun _ => true) true Tryz.f3.params.toList args.toList ds p := hA0
  rw [Tryz.params3] at hA hval
  obtain ⟨v0, vs0, d0, ds0, p0, q0, hargs, rfl, rfl, h0, r0⟩ := trodAll_cons hA
  obtain ⟨v1, vs1, d1, ds1, p1, q1, rfl, rfl, rfl, h1, r1⟩ := trodAll_cons r0
  obtain ⟨v2, vs2, d2, ds2, p2, q2, rfl, rfl, rfl, h2, r2⟩ := trodAll_cons r1
  obtain ⟨rfl, rfl, rfl⟩ := trodAll_nil r2
  obtain rfl : args = #[v0, v1, v2] := by cases args; simp_all
  obtain ⟨rfl, rfl⟩ := trodVars_none hV
  obtain ⟨a0, rfl, g0⟩ := Wl 1 (ks := aZ) (t := 24) (ts := [3, 3, 3, 3, 22, 22, 4, 3, 3]) (by kernel_rfl) (by kernel_rfl) (by kernel_rfl) (hval 0 24 v0 rfl rfl) h0
  obtain ⟨s1, z1, rfl, n1, k1, l1, m1, g1⟩ := RX 2 (ks := a_) Tryz.underlying25 (ts := [3, 3, 3, 22, 22, 50, 3, 3, 3, 3, 22, 22, 4, 3, 3]) (by kernel_rfl) (by kernel_rfl) (by kernel_rfl) (by simp) (hval 1 25 v1 rfl rfl) h1
  obtain ⟨x1, hx1, hp1⟩ := Ru (n := 0) (ks := a_) (ks' := [.int .u64, .int .u64]) (ts' := [22, 22]) 5 (fun z : Ks.T a_ => z.2.2.2.2.2.1) (fun _ => rfl) (u := 50) rfl Tryz.underlying50 (by kernel_rfl) (by kernel_rfl) (by kernel_rfl) (by simp) g1 (by simp)
  rw [← hx1] at k1 l1 m1
  rw [List.length_map] at l1 m1
  obtain ⟨a2, rfl, rfl, rfl⟩ := open_bool Tryz.underlying4 (hval 2 4 v2 rfl rfl) h2
  have c1 := VH Tryz.underlying25 n1 (hval 1 25 _ rfl rfl)
  clear hA0 hval0
  refine (walk a0 (AN g0 (by simp [Ks.len])) s1 x1 n1 l1 c1 m1 (fun p hp => ⟨(hp1 p hp).1, (hp1 p hp).2.2.2.1, (hp1 p hp).2.2.2.2⟩) a2 W k1 (fun p hp => ⟨(hp1 p hp).2.1, (hp1 p hp).2.2.1⟩)).mono fun e W' ⟨he, hg⟩ => ?_
  subst he
  have hlt0 : ∀ x ∈ p0, x.block < W.heap.size := fun x hx => by simpa using hW'.lt x (by simp [hx])
  have hlt1 : ∀ x ∈ p1, x.block < W.heap.size := fun x hx => by simpa using hW'.lt x (by simp [hx])
  exact ⟨_, rfl, Bv hW' (fun _ _ _ => trodAll_cons_mk (shut_bool Tryz.underlying4 _) trodAll_mk0)
    (trodAll_cons_mk (Below.trod laidOut (by kernel_rfl) (of_decide_eq_true (by kernel_rfl)) h0 hg hlt0) (trodAll_cons_mk (Below.trod laidOut (by kernel_rfl) (of_decide_eq_true (by kernel_rfl)) h1 hg hlt1) (trodAll_cons_mk (shut_bool Tryz.underlying4 _) trodAll_mk0))) rfl rfl hg⟩
theorem j0 : Rows.scriptRunsRow.wf (OpenSpec.ofChange Rows.scriptRunsSpec) = true := by kernel_rfl
theorem j2 : mapsRowed Tryz.prog = true := by kernel_rfl
theorem j3 : (Tryz.f3.params.all (Tryz.prog.readableRec ·) && (namedTie Tryz.prog Rows.scriptRunsRow.named Rows.scriptRunsSpec.vars && ((Rows.scriptRunsRow.stops == []) && ((Tryz.prog.stops == []) && ((Rows.scriptRunsRow.knobs == []) && (Tryz.prog.stopKnobs == [])))))) = true := by kernel_rfl
theorem j4 : (Rows.scriptRunsRow.inPlace == Tryz.prog.inPlace 3) = true := by kernel_rfl
theorem j5 : (Rows.scriptRunsRow.unfollowed == Tryz.prog.unfollowed 3) = true := by kernel_rfl
theorem j6 : (Rows.scriptRunsRow.recurses == Tryz.prog.recurses 3) = true := by kernel_rfl
theorem j7 : (Rows.scriptRunsRow.named == Tryz.prog.varsNamed 3) = true := by kernel_rfl
theorem j8 : ((Rows.scriptRunsRow.maps == (Tryz.f3.params.toList ++ Rows.scriptRunsSpec.plain.varTypes Tryz.prog).any (Tryz.prog.mapsRec ·)) && ((Rows.scriptRunsRow.ifaces == (Tryz.f3.params.toList ++ Rows.scriptRunsSpec.plain.varTypes Tryz.prog).any (Tryz.prog.ifacesRec ·)) && ((Rows.scriptRunsRow.mapsOut == Tryz.prog.mapsAmong Tryz.f3.resultTypes.toList) && ((Rows.scriptRunsRow.loops == (Tryz.f3.params.toList ++ Rows.scriptRunsSpec.plain.varTypes Tryz.prog).any (Tryz.prog.loopsFrom ·)) && (Rows.scriptRunsRow.wideKeys == (Tryz.f3.params.toList ++ Rows.scriptRunsSpec.plain.varTypes Tryz.prog ++ Tryz.f3.resultTypes.toList).any (Tryz.prog.wideKeysFrom ·)))))) = true := by kernel_rfl
theorem j9 : (Rows.scriptRunsSpec.vars.all (Tryz.prog.varReadable ·) && (Tryz.f3.resultTypes.all (fun t => Tryz.prog.readableRec t && decide (t < Tryz.prog.types.size)) && ((Rows.scriptRunsRow.ifacesOut == Tryz.f3.resultTypes.toList.any (Tryz.prog.ifacesRec ·)) && ((Rows.scriptRunsRow.loopsOut == Tryz.f3.resultTypes.toList.any (Tryz.prog.loopsFrom ·)) && ((Rows.scriptRunsRow.plainKeys == Tryz.prog.plainKeys) && Rows.scriptRunsRow.shortTexts.isNone))))) = true := by kernel_rfl
theorem j10 : Tryz.prog.stopsHeard = true := by kernel_rfl
theorem j11 : Tryz.prog.mayEnter = true := by kernel_rfl
theorem j12 : ((Rows.scriptRunsRow.lifted == Tryz.prog.liftsFinal) && ((Tryz.prog.make == some Rows.scriptRunsRow.make) && ((Rows.scriptRunsRow.kinds == IM Tryz.prog Tryz.f3 Rows.scriptRunsRow) && (Rows.scriptRunsRow.pinned == Rows.scriptRunsRow.pinnedBy)))) = true := by kernel_rfl
theorem j13 : ((Rows.scriptRunsRow.veiled == (Tryz.f3.params.toList ++ Rows.scriptRunsSpec.plain.varTypes Tryz.prog ++ Tryz.f3.resultTypes.toList).any (Tryz.prog.veiledRec ·)) && Rows.scriptRunsRow.veiledFits Tryz.prog Tryz.f3.params.toList (Tryz.f3.params.toList ++ Rows.scriptRunsSpec.plain.varTypes Tryz.prog ++ Tryz.f3.resultTypes.toList)) = true := by kernel_rfl
theorem joined : joinedFacts Tryz.prog 3 Tryz.f3 Rows.scriptRunsSpec Rows.scriptRunsRow = true := Ko (P := Tryz.prog) (f := 3) (fn := Tryz.f3) (s := Rows.scriptRunsSpec) (c := Rows.scriptRunsRow) j0 laidOut j2 j3 j4 j5 j6 j7 j8 j9 j10 j11 j12 j13
theorem over : Rows.scriptRunsRow.holds Tryz.pinned (OpenSpec.ofChange Rows.scriptRunsSpec) :=
  OpenClaim.holds_of_wide 3 Tryz.f3 rfl rfl rfl rfl rfl rfl rfl ⟨rfl, rfl, rfl, rfl, rfl⟩ rfl rfl rfl rfl rfl (by kernel_rfl) Tryz.func3 joined
    (of_decide_eq_true (by kernel_rfl)) (by unfold Func.isWrapper; first | (rw [if_pos (by decide +kernel)]; kernel_rfl) | (rw [if_neg (by decide +kernel)]; exact ⟨rfl, rfl⟩))
    (fun os started H enc _ => lifted os started H enc)
theorem proved : Rows.ScriptRunsCardSaid :=
  Claim7.holds_tied_plain_at .later [] [.data, .data, .data] true (true, "b1cd2660582d3db3e85a91e6ac0083f9740846f249edf76ce50399a621ce35ad") false
    over (fun _ h => by cases h) (by kernel_rfl) (fun _ h => by cases h) scriptRuns_row_tie rfl ⟨rfl, rfl⟩ (by kernel_rfl) rfl
    (fun f fn hf hfn => by
      obtain rfl : f = 3 := Option.some.inj ((show Tryz.prog.funcNamed Rows.scriptRunsRow.func = some 3 by kernel_rfl).symm.trans hf) |>.symm
      obtain rfl : fn = Tryz.f3 := (Option.some.inj (Tryz.func3.symm.trans hfn)).symm
      exact ⟨by kernel_rfl, fun j t ht => by
        have hw : (Tryz.f3.params.toList.all fun t => Tryz.prog.wantsStandIn t == false) = true := by kernel_rfl
        have hm : t ∈ Tryz.f3.params.toList := List.mem_of_getElem? (i := j) (by rw [Array.getElem?_toList]; exact ht)
        have hz : Tryz.prog.wantsStandIn t = false := by simpa using List.all_eq_true.1 hw t hm
        exact hz⟩)
    (by kernel_rfl)
#print axioms proved
end Go.Proofs.YtniflenfpbbikaaGreatDoor.scriptRuns
