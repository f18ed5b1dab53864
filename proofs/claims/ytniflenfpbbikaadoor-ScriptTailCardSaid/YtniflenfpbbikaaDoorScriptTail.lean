/- 'Rows.ScriptTailSaid'. -/
import Derived.Test.YtniflenfpbbikaaDoorRows
import Derived.Test.YtniflenfpbbikaaDoorA2
import Derived.Test.YtniflenfpbbikaaDoorK
import Derived.Test.YtniflenfpbbikaaDoorB0
import Derived.Test.YtniflenfpbbikaaDoorB1
import Derived.Test.YtniflenfpbbikaaDoorCards
import Derived.Test.YtniflenfpbbikaaDoorTie
import Derived.Lay
import Derived.SevenTiedAt
import Derived.Handed
import Derived.Lib.LaidTab
import Derived.Stop.LaidErr
namespace Go.Proofs.YtniflenfpbbikaaDoor.scriptTail
open Go.ChangeShapes Go.WideShapes Go.ChangeAt Go.RowKit Go.X
set_option linter.unusedVariables false
theorem own : ownKnob Tryd.prog.godebug = none := by kernel_rfl
theorem laidOut : laidOutB Tryd.prog = true := by kernel_rfl
theorem walk (s0 : Sl) (z0 : List (Ks.T [.int .u8])) (n0 : Nrm s0) (l0 : s0.len = z0.length) (c0 : s0.len ≤ s0.cap) (m0 : z0.length ≤ maxLen) (g0 : ∀ z ∈ z0, rowOk (Ks.mk [.int .u8] z)) (s1 : Sl) (z1 : List (Ks.T [.int .u8])) (n1 : Nrm s1) (l1 : s1.len = z1.length) (c1 : s1.len ≤ s1.cap) (m1 : z1.length ≤ maxLen) (g1 : ∀ z ∈ z1, rowOk (Ks.mk [.int .u8] z)) (w : World) (h0 : SlRd w s0 1 (flat [.int .u8] z0)) (h1 : SlRd w s1 1 (flat [.int .u8] z1)) :
    Calls Tryd.prog 5 #[(Lf.sl s0).enc, (Lf.sl s1).enc] w fun e w' => e = .returned (.bool true) ∧ Below w.heap.size w w' := by
  have t := law_read (w := w) (ScI.tail_tri s0 s1 z0 z1 n0 c0 (fun x hx => wf_u8 (g0 x hx _ (List.mem_singleton.2 rfl))) (fun x hx => wf_u8 (g1 x hx _ (List.mem_singleton.2 rfl)))) (readOk_star (readOk_rarr h0 l0) (readOk_rarr h1 l1))
  exact t
theorem met (os : Os) (args : Array Value) : laidMet Tryd.prog Rows.scriptTailRow.laid ((World.laidAll Tryd.prog os Rows.scriptTailRow.laid).forCall (fun _ _ => 0) ⟨#[], args, []⟩).memory := laidMet_laidAll args (by kernel_rfl) (by kernel_rfl)
set_option maxRecDepth 100000 in
theorem lifted (os : Os) (started : os.Started) (H : Type) (enc : TypeId × Value → H) :
    ReturnsInHanded {} Tryd.checked os 5 .any (fun w args => (Rows.scriptTailSpec.pre enc Tryd.prog Tryd.f5 [] false w args ∧ laidMetH Tryd.prog Rows.scriptTailRow.laid w) ∧ sizedMet enc Tryd.prog Tryd.f5 (OpenSpec.ofChange Rows.scriptTailSpec) false w args) (Rows.scriptTailSpec.post enc Tryd.prog Tryd.f5 false true false false) := by
  refine returnsInHanded_of_change_and (C := Tryd.checked) (X := fun w _ => laidMetH Tryd.prog Rows.scriptTailRow.laid w) (fun _ _ _ hh h => h.of_heap hh) own started (by kernel_rfl) Tryd.func5
    (ChangeSpec.witness_at (enc := enc) (C := Tryd.checked) (os := os) (X := fun w _ => laidMetH Tryd.prog Rows.scriptTailRow.laid w) false (World.laidAll Tryd.prog os Rows.scriptTailRow.laid) #[.slice none 0 0, .slice none 0 0] 8 (World.laidAll_os _ _ _) (by kernel_rfl) (by kernel_rfl) (by kernel_rfl) (by kernel_rfl) (by kernel_rfl) (met os _)) ?_
  intro W base args ds gs before hval0 hW hcnd hwt hL _
  have hval : ∀ (j : Nat) t v, Tryd.f5.params[j]? = some t → args[j]? = some v → Value.okWide Tryd.prog W .any base t v := hval0
  have hW' := hW
  obtain ⟨p, q, hA0, hV, rfl, hfz, hnd⟩ := hW
  have hA : DataW.TrodAll enc Tryd.prog W 0 (fun _ => true) true Tryd.f5.params.toList args.toList ds p := hA0
  rw [Tryd.params5] at hA hval
  obtain ⟨v0, vs0, d0, ds0, p0, q0, hargs, rfl, rfl, h0, r0⟩ := trodAll_cons hA
  obtain ⟨v1, vs1, d1, ds1, p1, q1, rfl, rfl, rfl, h1, r1⟩ := trodAll_cons r0
  obtain ⟨rfl, rfl, rfl⟩ := trodAll_nil r1
  obtain rfl : args = #[v0, v1] := by cases args; simp_all
  obtain ⟨rfl, rfl⟩ := trodVars_none hV
  obtain ⟨s0, z0, rfl, n0, k0, l0, m0, g0⟩ := rows_rd 1 (ks := [.int .u8]) Tryd.underlying22 (ts := [5]) (by kernel_rfl) (by kernel_rfl) (by kernel_rfl) (by simp) (hval 0 22 v0 rfl rfl) h0
  obtain ⟨s1, z1, rfl, n1, k1, l1, m1, g1⟩ := rows_rd 1 (ks := [.int .u8]) Tryd.underlying22 (ts := [5]) (by kernel_rfl) (by kernel_rfl) (by kernel_rfl) (by simp) (hval 1 22 v1 rfl rfl) h1
  have c0 := cap_rd Tryd.underlying22 n0 (hval 0 22 _ rfl rfl)
  have c1 := cap_rd Tryd.underlying22 n1 (hval 1 22 _ rfl rfl)
  clear hA0 hval0
  refine (walk s0 z0 n0 l0 c0 m0 (fun z hz => rowOk_of (g0 z hz) (by simp [Ks.len])) s1 z1 n1 l1 c1 m1 (fun z hz => rowOk_of (g1 z hz) (by simp [Ks.len])) W k0 k1).mono fun e W' ⟨he, hg⟩ => ?_
  subst he
  have hlt0 : ∀ x ∈ p0, x.block < W.heap.size := fun x hx => by simpa using hW'.lt x (by simp [hx])
  have hlt1 : ∀ x ∈ p1, x.block < W.heap.size := fun x hx => by simpa using hW'.lt x (by simp [hx])
  exact ⟨_, rfl, post_of_below hW' (fun _ _ _ => trodAll_cons_mk (shut_bool Tryd.underlying4 _) trodAll_mk0)
    (trodAll_cons_mk (Below.trod laidOut (by kernel_rfl) (of_decide_eq_true (by kernel_rfl)) h0 hg hlt0) (trodAll_cons_mk (Below.trod laidOut (by kernel_rfl) (of_decide_eq_true (by kernel_rfl)) h1 hg hlt1) trodAll_mk0)) rfl rfl hg⟩
theorem j0 : Rows.scriptTailRow.wf (OpenSpec.ofChange Rows.scriptTailSpec) = true := by kernel_rfl
theorem j2 : mapsRowed Tryd.prog = true := by kernel_rfl
theorem j3 : (Tryd.f5.params.all (Tryd.prog.readableRec ·) && (namedTie Tryd.prog Rows.scriptTailRow.named Rows.scriptTailSpec.vars && ((Rows.scriptTailRow.stops == []) && ((Tryd.prog.stops == []) && ((Rows.scriptTailRow.knobs == []) && (Tryd.prog.stopKnobs == [])))))) = true := by kernel_rfl
theorem j4 : (Rows.scriptTailRow.inPlace == Tryd.prog.inPlace 5) = true := by kernel_rfl
theorem j5 : (Rows.scriptTailRow.unfollowed == Tryd.prog.unfollowed 5) = true := by kernel_rfl
theorem j6 : (Rows.scriptTailRow.recurses == Tryd.prog.recurses 5) = true := by kernel_rfl
theorem j7 : (Rows.scriptTailRow.named == Tryd.prog.varsNamed 5) = true := by kernel_rfl
theorem j8 : ((Rows.scriptTailRow.maps == (Tryd.f5.params.toList ++ Rows.scriptTailSpec.plain.varTypes Tryd.prog).any (Tryd.prog.mapsRec ·)) && ((Rows.scriptTailRow.ifaces == (Tryd.f5.params.toList ++ Rows.scriptTailSpec.plain.varTypes Tryd.prog).any (Tryd.prog.ifacesRec ·)) && ((Rows.scriptTailRow.mapsOut == Tryd.prog.mapsAmong Tryd.f5.resultTypes.toList) && ((Rows.scriptTailRow.loops == (Tryd.f5.params.toList ++ Rows.scriptTailSpec.plain.varTypes Tryd.prog).any (Tryd.prog.loopsFrom ·)) && (Rows.scriptTailRow.wideKeys == (Tryd.f5.params.toList ++ Rows.scriptTailSpec.plain.varTypes Tryd.prog ++ Tryd.f5.resultTypes.toList).any (Tryd.prog.wideKeysFrom ·)))))) = true := by kernel_rfl
theorem j9 : (Rows.scriptTailSpec.vars.all (Tryd.prog.varReadable ·) && (Tryd.f5.resultTypes.all (fun t => Tryd.prog.readableRec t && decide (t < Tryd.prog.types.size)) && ((Rows.scriptTailRow.ifacesOut == Tryd.f5.resultTypes.toList.any (Tryd.prog.ifacesRec ·)) && ((Rows.scriptTailRow.loopsOut == Tryd.f5.resultTypes.toList.any (Tryd.prog.loopsFrom ·)) && ((Rows.scriptTailRow.plainKeys == Tryd.prog.plainKeys) && Rows.scriptTailRow.shortTexts.isNone))))) = true := by kernel_rfl
theorem j10 : Tryd.prog.stopsHeard = true := by kernel_rfl
theorem j11 : Tryd.prog.mayEnter = true := by kernel_rfl
theorem j12 : ((Rows.scriptTailRow.lifted == Tryd.prog.liftsFinal) && ((Tryd.prog.make == some Rows.scriptTailRow.make) && ((Rows.scriptTailRow.kinds == kindsOf Tryd.prog Tryd.f5 Rows.scriptTailRow) && (Rows.scriptTailRow.pinned == Rows.scriptTailRow.pinnedBy)))) = true := by kernel_rfl
theorem j13 : ((Rows.scriptTailRow.veiled == (Tryd.f5.params.toList ++ Rows.scriptTailSpec.plain.varTypes Tryd.prog ++ Tryd.f5.resultTypes.toList).any (Tryd.prog.veiledRec ·)) && Rows.scriptTailRow.veiledFits Tryd.prog Tryd.f5.params.toList (Tryd.f5.params.toList ++ Rows.scriptTailSpec.plain.varTypes Tryd.prog ++ Tryd.f5.resultTypes.toList)) = true := by kernel_rfl
theorem joined : joinedFacts Tryd.prog 5 Tryd.f5 Rows.scriptTailSpec Rows.scriptTailRow = true := joined_of (P := Tryd.prog) (f := 5) (fn := Tryd.f5) (s := Rows.scriptTailSpec) (c := Rows.scriptTailRow) j0 laidOut j2 j3 j4 j5 j6 j7 j8 j9 j10 j11 j12 j13
theorem over : Rows.scriptTailRow.holds Tryd.pinned (OpenSpec.ofChange Rows.scriptTailSpec) :=
  OpenClaim.holds_of_wide 5 Tryd.f5 rfl rfl rfl rfl rfl rfl rfl ⟨rfl, rfl, rfl, rfl, rfl⟩ rfl rfl rfl rfl rfl (by kernel_rfl) Tryd.func5 joined
    (of_decide_eq_true (by kernel_rfl)) (by unfold Func.isWrapper; first | (rw [if_pos (by decide +kernel)]; kernel_rfl) | (rw [if_neg (by decide +kernel)]; exact ⟨rfl, rfl⟩))
    (fun os started H enc _ => lifted os started H enc)
theorem proved : Rows.ScriptTailCardSaid :=
  Claim7.holds_tied_plain_at .later [] [.data, .data, .data] true (true, "0d1a386e622465f7f5b3f5cfa72d8735a8b6bccab957f274b99eca0076c2d30d") false
    over (fun _ h => by cases h) (by kernel_rfl) (fun _ h => by cases h) scriptTail_row_tie rfl ⟨rfl, rfl⟩ (by kernel_rfl) rfl
    (fun f fn hf hfn => by
      obtain rfl : f = 5 := Option.some.inj ((show Tryd.prog.funcNamed Rows.scriptTailRow.func = some 5 by kernel_rfl).symm.trans hf) |>.symm
      obtain rfl : fn = Tryd.f5 := (Option.some.inj (Tryd.func5.symm.trans hfn)).symm
      exact ⟨by kernel_rfl, fun j t ht => by
        have hw : (Tryd.f5.params.toList.all fun t => Tryd.prog.wantsStandIn t == false) = true := by kernel_rfl
        have hm : t ∈ Tryd.f5.params.toList := List.mem_of_getElem? (i := j) (by rw [Array.getElem?_toList]; exact ht)
        have hz : Tryd.prog.wantsStandIn t = false := by simpa using List.all_eq_true.1 hw t hm
        exact hz⟩)
    (by kernel_rfl)
#print axioms proved
end Go.Proofs.YtniflenfpbbikaaDoor.scriptTail
