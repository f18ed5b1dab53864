/- 'Rows.ScriptBytesSaid'. -/
import Derived.Test.YtniflenfpbbikaaGreatDoorRows
import Derived.Test.YtniflenfpbbikaaGreatDoorCards
import Derived.Test.YtniflenfpbbikaaGreatDoorTie
import Derived.Lay
import Derived.SevenTiedAt
import Derived.Handed
import Derived.Lib.LaidTab
import Derived.Stop.LaidErr
import Derived.Test.YtniflenfpbbikaaGreatDoorB8
namespace Go.Proofs.YtniflenfpbbikaaGreatDoor.scriptBytes
open Go.ChangeShapes Go.WideShapes Go.ChangeAt Go.RowKit Go.X
set_option linter.all false
theorem own : ownKnob Tryz.prog.godebug = none := by kernel_rfl
theorem laidOut : laidOutB Tryz.prog = true := by kernel_rfl
theorem walk (w : World) (ht : Lib.TabIs Tryz.prog w "internal/strconv.uint64pow10" .u64 Lib.pow10Tab) (s0 : Sl) (z0 : List (Ks.T [.int .u8])) (n0 : Ee s0) (l0 : s0.len = z0.length) (c0 : s0.len ≤ s0.cap) (m0 : z0.length ≤ maxLen) (g0 : ∀ z ∈ z0, S8 (Ks.mk [.int .u8] z)) (h0 : pA w s0 1 (flat [.int .u8] z0)) :
    Calls Tryz.prog 4 #[(Lf.sl s0).enc] w fun e w' => e = .returned (.bool true) ∧ Below w.heap.size w w' := by
  have t := M2 (w := w) (ScY.JE s0 z0 c0 (fun x hx => wf_u8 (g0 x hx _ (List.mem_singleton.2 rfl)))) (FI (ScJ.HB ht) (FH h0 l0))
  exact t
theorem met (os : Os) (args : Array Value) : laidMet Tryz.prog Rows.scriptBytesRow.laid ((World.laidAll Tryz.prog os Rows.scriptBytesRow.laid).forCall (fun _ _ => 0) ⟨#[], args, []⟩).memory := laidMet_laidAll args (by kernel_rfl) (by kernel_rfl)
set_option maxRecDepth 100000 in
theorem lifted (os : Os) (started : os.Started) (H : Type) (enc : TypeId × Value → H) :
    ReturnsInHanded {} Tryz.checked os 4 .any (fun w args => (Rows.scriptBytesSpec.pre enc Tryz.prog Tryz.f4 [] false w args ∧ laidMetH Tryz.prog Rows.scriptBytesRow.laid w) ∧ sizedMet enc Tryz.prog Tryz.f4 (OpenSpec.ofChange Rows.scriptBytesSpec) false w args) (Rows.scriptBytesSpec.post enc Tryz.prog Tryz.f4 false true false false) := by
  refine returnsInHanded_of_change_and (C := Tryz.checked) (X := fun w _ => laidMetH Tryz.prog Rows.scriptBytesRow.laid w) (fun _ _ _ hh h => h.of_heap hh) own started (by kernel_rfl) Tryz.func4
    (ChangeSpec.witness_at (enc := enc) (C := Tryz.checked) (os := os) (X := fun w _ => laidMetH Tryz.prog Rows.scriptBytesRow.laid w) false (World.laidAll Tryz.prog os Rows.scriptBytesRow.laid) #[.slice none 0 0] 8 (World.laidAll_os _ _ _) (by kernel_rfl) (by kernel_rfl) (by kernel_rfl) (by kernel_rfl) (by kernel_rfl) (met os _)) ?_
  intro W base args ds gs before hval0 hW hcnd hwt hL _
  have hval : ∀ (j : Nat) t v, Tryz.f4.params[j]? = some t → args[j]? = some v → Value.okWide Tryz.prog W .any base t v := hval0
  have hW' := hW
  obtain ⟨p, q, hA0, hV, rfl, hfz, hnd⟩ := hW
  have hA : DataW.TrodAll enc Tryz.prog W 0 (fun _ => true) true Tryz.f4.params.toList args.toList ds p := hA0
  rw [Tryz.params4] at hA hval
  obtain ⟨v0, vs0, d0, ds0, p0, q0, hargs, rfl, rfl, h0, r0⟩ := trodAll_cons hA
  obtain ⟨rfl, rfl, rfl⟩ := trodAll_nil r0
  obtain rfl : args = #[v0] := by cases args; simp_all
  obtain ⟨rfl, rfl⟩ := trodVars_none hV
  obtain ⟨s0, z0, rfl, n0, k0, l0, m0, g0⟩ := RO 1 (ks := [.int .u8]) Tryz.underlying42 (ts := [5]) (by kernel_rfl) (by kernel_rfl) (by kernel_rfl) (by simp) (hval 0 42 v0 rfl rfl) h0
  have c0 := VE Tryz.underlying42 n0 (hval 0 42 _ rfl rfl)
  clear hA0 hval0
  have hL1 : laidMet Tryz.prog Rows.scriptBytesRow.laid W := hL
  have ht : Lib.TabIs Tryz.prog W "internal/strconv.uint64pow10" .u64 Lib.pow10Tab := Lib.tabIs_of_head (g := 0) (t := 250) (e := 22) (n := 20) (by kernel_rfl) (by kernel_rfl) Tryz.underlying250 Tryz.underlying22 (by kernel_rfl) (by kernel_rfl) hL1.tail.tail
  refine (walk W ht s0 z0 n0 l0 c0 m0 (fun z hz => Oq (g0 z hz) (by simp [Ks.len])) k0).mono fun e W' ⟨he, hg⟩ => ?_
  subst he
  have hlt0 : ∀ x ∈ p0, x.block < W.heap.size := fun x hx => by simpa using hW'.lt x (by simp [hx])
  exact ⟨_, rfl, Bn hW' (fun _ _ _ => trodAll_cons_mk (shut_bool Tryz.underlying4 _) trodAll_mk0)
    (trodAll_cons_mk (Below.trod laidOut (by kernel_rfl) (of_decide_eq_true (by kernel_rfl)) h0 hg hlt0) trodAll_mk0) rfl rfl hg⟩
theorem j0 : Rows.scriptBytesRow.wf (OpenSpec.ofChange Rows.scriptBytesSpec) = true := by kernel_rfl
theorem j2 : mapsRowed Tryz.prog = true := by kernel_rfl
theorem j3 : (Tryz.f4.params.all (Tryz.prog.readableRec ·) && (namedTie Tryz.prog Rows.scriptBytesRow.named Rows.scriptBytesSpec.vars && ((Rows.scriptBytesRow.stops == []) && ((Tryz.prog.stops == []) && ((Rows.scriptBytesRow.knobs == []) && (Tryz.prog.stopKnobs == [])))))) = true := by kernel_rfl
theorem j4 : (Rows.scriptBytesRow.inPlace == Tryz.prog.inPlace 4) = true := by kernel_rfl
theorem j5 : (Rows.scriptBytesRow.unfollowed == Tryz.prog.unfollowed 4) = true := by kernel_rfl
theorem j6 : (Rows.scriptBytesRow.recurses == Tryz.prog.recurses 4) = true := by kernel_rfl
theorem j7 : (Rows.scriptBytesRow.named == Tryz.prog.varsNamed 4) = true := by kernel_rfl
theorem j8 : ((Rows.scriptBytesRow.maps == (Tryz.f4.params.toList ++ Rows.scriptBytesSpec.plain.varTypes Tryz.prog).any (Tryz.prog.mapsRec ·)) && ((Rows.scriptBytesRow.ifaces == (Tryz.f4.params.toList ++ Rows.scriptBytesSpec.plain.varTypes Tryz.prog).any (Tryz.prog.ifacesRec ·)) && ((Rows.scriptBytesRow.mapsOut == Tryz.prog.mapsAmong Tryz.f4.resultTypes.toList) && ((Rows.scriptBytesRow.loops == (Tryz.f4.params.toList ++ Rows.scriptBytesSpec.plain.varTypes Tryz.prog).any (Tryz.prog.loopsFrom ·)) && (Rows.scriptBytesRow.wideKeys == (Tryz.f4.params.toList ++ Rows.scriptBytesSpec.plain.varTypes Tryz.prog ++ Tryz.f4.resultTypes.toList).any (Tryz.prog.wideKeysFrom ·)))))) = true := by kernel_rfl
theorem j9 : (Rows.scriptBytesSpec.vars.all (Tryz.prog.varReadable ·) && (Tryz.f4.resultTypes.all (fun t => Tryz.prog.readableRec t && decide (t < Tryz.prog.types.size)) && ((Rows.scriptBytesRow.ifacesOut == Tryz.f4.resultTypes.toList.any (Tryz.prog.ifacesRec ·)) && ((Rows.scriptBytesRow.loopsOut == Tryz.f4.resultTypes.toList.any (Tryz.prog.loopsFrom ·)) && ((Rows.scriptBytesRow.plainKeys == Tryz.prog.plainKeys) && Rows.scriptBytesRow.shortTexts.isNone))))) = true := by kernel_rfl
theorem j10 : Tryz.prog.stopsHeard = true := by kernel_rfl
theorem j11 : Tryz.prog.mayEnter = true := by kernel_rfl
theorem j12 : ((Rows.scriptBytesRow.lifted == Tryz.prog.liftsFinal) && ((Tryz.prog.make == some Rows.scriptBytesRow.make) && ((Rows.scriptBytesRow.kinds == ID Tryz.prog Tryz.f4 Rows.scriptBytesRow) && (Rows.scriptBytesRow.pinned == Rows.scriptBytesRow.pinnedBy)))) = true := by kernel_rfl
theorem j13 : ((Rows.scriptBytesRow.veiled == (Tryz.f4.params.toList ++ Rows.scriptBytesSpec.plain.varTypes Tryz.prog ++ Tryz.f4.resultTypes.toList).any (Tryz.prog.veiledRec ·)) && Rows.scriptBytesRow.veiledFits Tryz.prog Tryz.f4.params.toList (Tryz.f4.params.toList ++ Rows.scriptBytesSpec.plain.varTypes Tryz.prog ++ Tryz.f4.resultTypes.toList)) = true := by kernel_rfl
theorem joined : joinedFacts Tryz.prog 4 Tryz.f4 Rows.scriptBytesSpec Rows.scriptBytesRow = true := J5 (P := Tryz.prog) (f := 4) (fn := Tryz.f4) (s := Rows.scriptBytesSpec) (c := Rows.scriptBytesRow) j0 laidOut j2 j3 j4 j5 j6 j7 j8 j9 j10 j11 j12 j13
theorem over : Rows.scriptBytesRow.holds Tryz.pinned (OpenSpec.ofChange Rows.scriptBytesSpec) :=
  OpenClaim.holds_of_wide 4 Tryz.f4 rfl rfl rfl rfl rfl rfl rfl ⟨rfl, rfl, rfl, rfl, rfl⟩ rfl rfl rfl rfl rfl (by kernel_rfl) Tryz.func4 joined
    (of_decide_eq_true (by kernel_rfl)) (by unfold Func.isWrapper; first | (rw [if_pos (by decide +kernel)]; kernel_rfl) | (rw [if_neg (by decide +kernel)]; exact ⟨rfl, rfl⟩))
    (fun os started H enc _ => lifted os started H enc)
theorem proved : Rows.ScriptBytesCardSaid :=
  Claim7.holds_tied_plain_at .later [] [.data, .data, .data] true (true, "b1cd2660582d3db3e85a91e6ac0083f9740846f249edf76ce50399a621ce35ad") false
    over (fun _ h => by cases h) (by kernel_rfl) (fun _ h => by cases h) scriptBytes_row_tie rfl ⟨rfl, rfl⟩ (by kernel_rfl) rfl
    (fun f fn hf hfn => by
      obtain rfl : f = 4 := Option.some.inj ((show Tryz.prog.funcNamed Rows.scriptBytesRow.func = some 4 by kernel_rfl).symm.trans hf) |>.symm
      obtain rfl : fn = Tryz.f4 := (Option.some.inj (Tryz.func4.symm.trans hfn)).symm
      exact ⟨by kernel_rfl, fun j t ht => by
        have hw : (Tryz.f4.params.toList.all fun t => Tryz.prog.wantsStandIn t == false) = true := by kernel_rfl
        have hm : t ∈ Tryz.f4.params.toList := List.mem_of_getElem? (i := j) (by rw [Array.getElem?_toList]; exact ht)
        have hz : Tryz.prog.wantsStandIn t = false := by simpa using List.all_eq_true.1 hw t hm
        exact hz⟩)
    (by kernel_rfl)
#print axioms proved
end Go.Proofs.YtniflenfpbbikaaGreatDoor.scriptBytes
