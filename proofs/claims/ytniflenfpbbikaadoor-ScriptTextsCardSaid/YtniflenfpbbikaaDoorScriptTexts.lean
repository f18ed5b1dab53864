/- 'Rows.ScriptTextsSaid'. -/
import Derived.Test.YtniflenfpbbikaaDoorRows
import Derived.Test.YtniflenfpbbikaaDoorA2
import Derived.Test.YtniflenfpbbikaaDoorK
import Derived.Test.YtniflenfpbbikaaDoorB0
import Derived.Test.YtniflenfpbbikaaDoorB1
import Derived.Test.YtniflenfpbbikaaDoorB2
import Derived.Test.YtniflenfpbbikaaDoorCards
import Derived.Test.YtniflenfpbbikaaDoorTie
import Derived.Lay
import Derived.SevenTiedAt
import Derived.Handed
import Derived.Lib.LaidTab
import Derived.Stop.LaidErr
namespace Go.Proofs.YtniflenfpbbikaaDoor.scriptTexts
open Go.ChangeShapes Go.WideShapes Go.ChangeAt Go.RowKit Go.X
set_option linter.unusedVariables false
theorem own : ownKnob Tryd.prog.godebug = none := by kernel_rfl
theorem laidOut : laidOutB Tryd.prog = true := by kernel_rfl
theorem walk (w : World) (ht : Lib.TabIs Tryd.prog w "internal/strconv.uint64pow10" .u64 Lib.pow10Tab) (s0 : Sl) (x0 : List (Ks.T K_s3u × List (Ks.T K_iuiub) × List (Ks.T K_iuiub))) (n0 : Nrm s0) (l0 : s0.len = x0.length) (c0 : s0.len ≤ s0.cap) (m0 : x0.length ≤ maxLen) (g0 : ∀ p ∈ x0, rowOk (Ks.mk K_s3u p.1) ∧ (∀ y ∈ p.2.1, rowOk (Ks.mk K_iuiub y)) ∧ (∀ y ∈ p.2.2, rowOk (Ks.mk K_iuiub y)) ∧ p.2.1.length ≤ reachBytes ∧ p.2.2.length ≤ reachBytes) (s1 : Sl) (z1 : List (Ks.T [.int .i64])) (n1 : Nrm s1) (l1 : s1.len = z1.length) (c1 : s1.len ≤ s1.cap) (m1 : z1.length ≤ maxLen) (g1 : ∀ z ∈ z1, rowOk (Ks.mk [.int .i64] z)) (h0 : SlRd w s0 4 (flat K_s3u (x0.map Prod.fst))) (k0 : ∀ p ∈ x0, (SlRd w p.1.1 5 (flat K_iuiub p.2.1) ∧ p.1.1.len = p.2.1.length) ∧ (SlRd w p.1.2.1 5 (flat K_iuiub p.2.2) ∧ p.1.2.1.len = p.2.2.length)) (h1 : SlRd w s1 1 (flat [.int .i64] z1)) :
    Calls Tryd.prog 4 #[(Lf.sl s0).enc, (Lf.sl s1).enc] w fun e w' => e = .returned (.bool true) ∧ Below w.heap.size w w' := by
  have t := law_read (w := w) (ScK.texts_tri s0 s1 x0 z1 (fun p hp => ⟨fun s hs => ⟨(wf_i64 ((g0 p hp).2.1 s hs _ (.head _))).2, wf_u64 ((g0 p hp).2.1 s hs _ (.tail _ (.head _))), (wf_i64 ((g0 p hp).2.1 s hs _ (.tail _ (.tail _ (.head _))))).2⟩, fun s hs => ⟨(wf_i64 ((g0 p hp).2.2.1 s hs _ (.head _))).2, wf_u64 ((g0 p hp).2.2.1 s hs _ (.tail _ (.head _))), (wf_i64 ((g0 p hp).2.2.1 s hs _ (.tail _ (.tail _ (.head _))))).2⟩, wf_u64 ((g0 p hp).1 _ (.tail _ (.tail _ (.tail _ (.head _))))), (g0 p hp).2.2.2⟩) (fun x hx => (wf_i64 (g1 x hx _ (.head _))).2) (by unfold maxLen at m0; omega) (by unfold maxLen at m1; omega)) (readOk_star (ScJ.readOk_tab ht) (readOk_star (readOk_star (readOk_rarr h0 (by rw [List.length_map]; exact l0)) (readOk_rl (f := fun p : Ks.T K_s3u × List (Ks.T K_iuiub) × List (Ks.T K_iuiub) => rarr p.1.1 K_iuiub p.2.1 ^ rarr p.1.2.1 K_iuiub p.2.2) fun p hp => readOk_star (readOk_rarr (k0 p hp).1.1 (k0 p hp).1.2) (readOk_rarr (k0 p hp).2.1 (k0 p hp).2.2))) (readOk_rarr h1 l1)))
  exact t
theorem met (os : Os) (args : Array Value) : laidMet Tryd.prog Rows.scriptTextsRow.laid ((World.laidAll Tryd.prog os Rows.scriptTextsRow.laid).forCall (fun _ _ => 0) ⟨#[], args, []⟩).memory := laidMet_laidAll args (by kernel_rfl) (by kernel_rfl)
set_option maxRecDepth 100000 in
theorem lifted (os : Os) (started : os.Started) (H : Type) (enc : TypeId × Value → H) :
    ReturnsInHanded {} Tryd.checked os 4 .any (fun w args => (Rows.scriptTextsSpec.pre enc Tryd.prog Tryd.f4 [] false w args ∧ laidMetH Tryd.prog Rows.scriptTextsRow.laid w) ∧ sizedMet enc Tryd.prog Tryd.f4 (OpenSpec.ofChange Rows.scriptTextsSpec) false w args) (Rows.scriptTextsSpec.post enc Tryd.prog Tryd.f4 false true false false) := by
  refine returnsInHanded_of_change_and (C := Tryd.checked) (X := fun w _ => laidMetH Tryd.prog Rows.scriptTextsRow.laid w) (fun _ _ _ hh h => h.of_heap hh) own started (by kernel_rfl) Tryd.func4
    (ChangeSpec.witness_at (enc := enc) (C := Tryd.checked) (os := os) (X := fun w _ => laidMetH Tryd.prog Rows.scriptTextsRow.laid w) false (World.laidAll Tryd.prog os Rows.scriptTextsRow.laid) #[.slice none 0 0, .slice none 0 0] 8 (World.laidAll_os _ _ _) (by kernel_rfl) (by kernel_rfl) (by kernel_rfl) (by kernel_rfl) (by kernel_rfl) (met os _)) ?_
  intro W base args ds gs before hval0 hW hcnd hwt hL _
  have hval : ∀ (j : Nat) t v, Tryd.f4.params[j]? = some t → args[j]? = some v → Value.okWide Tryd.prog W .any base t v := hval0
  have hW' := hW
  obtain ⟨p, q, hA0, hV, rfl, hfz, hnd⟩ := hW
  have hA : DataW.TrodAll enc Tryd.prog W 0 (fun _ => true) true Tryd.f4.params.toList args.toList ds p := hA0
  rw [Tryd.params4] at hA hval
  obtain ⟨v0, vs0, d0, ds0, p0, q0, hargs, rfl, rfl, h0, r0⟩ := trodAll_cons hA
  obtain ⟨v1, vs1, d1, ds1, p1, q1, rfl, rfl, rfl, h1, r1⟩ := trodAll_cons r0
  obtain ⟨rfl, rfl, rfl⟩ := trodAll_nil r1
  obtain rfl : args = #[v0, v1] := by cases args; simp_all
  obtain ⟨rfl, rfl⟩ := trodVars_none hV
  obtain ⟨s0, z0, rfl, n0, k0, l0, m0, g0⟩ := rows_rd 2 (ks := K_s3u) Tryd.underlying37 (ts := [39, 39, 40, 26]) (by kernel_rfl) (by kernel_rfl) (by kernel_rfl) (by simp) (hval 0 37 v0 rfl rfl) h0
  obtain ⟨xa0, hxa0, hpa0⟩ := nest_rd (n := 0) (ks := K_s3u) (ks' := K_iuiub) (ts' := [3, 26, 3, 26, 4]) 0 (fun z : Ks.T K_s3u => z.1) (fun _ => rfl) (u := 39) rfl Tryd.underlying39 (by kernel_rfl) (by kernel_rfl) (by kernel_rfl) (by simp) g0 (by simp)
  have sa0 := nest_sz (P := Tryd.prog) (u := 39) 0 (fun z : Ks.T K_s3u => z.1) (fun _ => rfl) Tryd.underlying37 Tryd.underlying42 rfl rfl rfl Tryd.underlying39 (by kernel_rfl) (by kernel_rfl) (of_decide_eq_true (by kernel_rfl)) h0 k0 l0 (fun n hn => of_decide_eq_true (List.all_eq_true.1 hwt n (DataW.weights_mem_each (j := 0) (t := 37) (d := d0) (by kernel_rfl) rfl n hn)))
  obtain ⟨xb0, hxb0, hpb0⟩ := nest_rd (n := 0) (ks := K_s3u) (ks' := K_iuiub) (ts' := [3, 26, 3, 26, 4]) 1 (fun z : Ks.T K_s3u => z.2.1) (fun _ => rfl) (u := 39) rfl Tryd.underlying39 (by kernel_rfl) (by kernel_rfl) (by kernel_rfl) (by simp) g0 (by simp)
  have sb0 := nest_sz (P := Tryd.prog) (u := 39) 1 (fun z : Ks.T K_s3u => z.2.1) (fun _ => rfl) Tryd.underlying37 Tryd.underlying42 rfl rfl rfl Tryd.underlying39 (by kernel_rfl) (by kernel_rfl) (of_decide_eq_true (by kernel_rfl)) h0 k0 l0 (fun n hn => of_decide_eq_true (List.all_eq_true.1 hwt n (DataW.weights_mem_each (j := 0) (t := 37) (d := d0) (by kernel_rfl) rfl n hn)))
  obtain ⟨x0, hx0, hp0⟩ := two_rd hxa0 hxb0
  have sa0 := fun p hp => sa0 (Prod.fst p) (by rw [← hx0]; exact List.mem_map_of_mem hp)
  have sb0 := fun p hp => sb0 (Prod.fst p) (by rw [← hx0]; exact List.mem_map_of_mem hp)
  rw [← hx0] at k0 l0 m0
  rw [List.length_map] at l0 m0
  obtain ⟨s1, z1, rfl, n1, k1, l1, m1, g1⟩ := rows_rd 1 (ks := [.int .i64]) Tryd.underlying38 (ts := [46]) (by kernel_rfl) (by kernel_rfl) (by kernel_rfl) (by simp) (hval 1 38 v1 rfl rfl) h1
  have c0 := cap_rd Tryd.underlying37 n0 (hval 0 37 _ rfl rfl)
  have c1 := cap_rd Tryd.underlying38 n1 (hval 1 38 _ rfl rfl)
  clear hA0 hval0
  have hL1 : laidMet Tryd.prog Rows.scriptTextsRow.laid W := hL
  have ht : Lib.TabIs Tryd.prog W "internal/strconv.uint64pow10" .u64 Lib.pow10Tab := Lib.tabIs_of_head (g := 0) (t := 85) (e := 26) (n := 20) (by kernel_rfl) (by kernel_rfl) Tryd.underlying85 Tryd.underlying26 (by kernel_rfl) (by kernel_rfl) hL1.tail.tail
  refine (walk W ht s0 x0 n0 l0 c0 m0 (fun p hp => ⟨(hpa0 _ (hp0 p hp).1).1, (hpa0 _ (hp0 p hp).1).2.2.2.2.1, (hpb0 _ (hp0 p hp).2).2.2.2.2.1, Nat.le_trans (Nat.le_of_eq (hpa0 _ (hp0 p hp).1).2.2.1.symm) (sa0 p hp), Nat.le_trans (Nat.le_of_eq (hpb0 _ (hp0 p hp).2).2.2.1.symm) (sb0 p hp)⟩) s1 z1 n1 l1 c1 m1 (fun z hz => rowOk_of (g1 z hz) (by simp [Ks.len])) k0 (fun p hp => ⟨⟨(hpa0 _ (hp0 p hp).1).2.1, (hpa0 _ (hp0 p hp).1).2.2.1⟩, ⟨(hpb0 _ (hp0 p hp).2).2.1, (hpb0 _ (hp0 p hp).2).2.2.1⟩⟩) k1).mono fun e W' ⟨he, hg⟩ => ?_
  subst he
  have hlt0 : ∀ x ∈ p0, x.block < W.heap.size := fun x hx => by simpa using hW'.lt x (by simp [hx])
  have hlt1 : ∀ x ∈ p1, x.block < W.heap.size := fun x hx => by simpa using hW'.lt x (by simp [hx])
  exact ⟨_, rfl, post_of_below hW' (fun _ _ _ => trodAll_cons_mk (shut_bool Tryd.underlying4 _) trodAll_mk0)
    (trodAll_cons_mk (Below.trod laidOut (by kernel_rfl) (of_decide_eq_true (by kernel_rfl)) h0 hg hlt0) (trodAll_cons_mk (Below.trod laidOut (by kernel_rfl) (of_decide_eq_true (by kernel_rfl)) h1 hg hlt1) trodAll_mk0)) rfl rfl hg⟩
theorem j0 : Rows.scriptTextsRow.wf (OpenSpec.ofChange Rows.scriptTextsSpec) = true := by kernel_rfl
theorem j2 : mapsRowed Tryd.prog = true := by kernel_rfl
theorem j3 : (Tryd.f4.params.all (Tryd.prog.readableRec ·) && (namedTie Tryd.prog Rows.scriptTextsRow.named Rows.scriptTextsSpec.vars && ((Rows.scriptTextsRow.stops == []) && ((Tryd.prog.stops == []) && ((Rows.scriptTextsRow.knobs == []) && (Tryd.prog.stopKnobs == [])))))) = true := by kernel_rfl
theorem j4 : (Rows.scriptTextsRow.inPlace == Tryd.prog.inPlace 4) = true := by kernel_rfl
theorem j5 : (Rows.scriptTextsRow.unfollowed == Tryd.prog.unfollowed 4) = true := by kernel_rfl
theorem j6 : (Rows.scriptTextsRow.recurses == Tryd.prog.recurses 4) = true := by kernel_rfl
theorem j7 : (Rows.scriptTextsRow.named == Tryd.prog.varsNamed 4) = true := by kernel_rfl
theorem j8 : ((Rows.scriptTextsRow.maps == (Tryd.f4.params.toList ++ Rows.scriptTextsSpec.plain.varTypes Tryd.prog).any (Tryd.prog.mapsRec ·)) && ((Rows.scriptTextsRow.ifaces == (Tryd.f4.params.toList ++ Rows.scriptTextsSpec.plain.varTypes Tryd.prog).any (Tryd.prog.ifacesRec ·)) && ((Rows.scriptTextsRow.mapsOut == Tryd.prog.mapsAmong Tryd.f4.resultTypes.toList) && ((Rows.scriptTextsRow.loops == (Tryd.f4.params.toList ++ Rows.scriptTextsSpec.plain.varTypes Tryd.prog).any (Tryd.prog.loopsFrom ·)) && (Rows.scriptTextsRow.wideKeys == (Tryd.f4.params.toList ++ Rows.scriptTextsSpec.plain.varTypes Tryd.prog ++ Tryd.f4.resultTypes.toList).any (Tryd.prog.wideKeysFrom ·)))))) = true := by kernel_rfl
theorem j9 : (Rows.scriptTextsSpec.vars.all (Tryd.prog.varReadable ·) && (Tryd.f4.resultTypes.all (fun t => Tryd.prog.readableRec t && decide (t < Tryd.prog.types.size)) && ((Rows.scriptTextsRow.ifacesOut == Tryd.f4.resultTypes.toList.any (Tryd.prog.ifacesRec ·)) && ((Rows.scriptTextsRow.loopsOut == Tryd.f4.resultTypes.toList.any (Tryd.prog.loopsFrom ·)) && ((Rows.scriptTextsRow.plainKeys == Tryd.prog.plainKeys) && Rows.scriptTextsRow.shortTexts.isNone))))) = true := by kernel_rfl
theorem j10 : Tryd.prog.stopsHeard = true := by kernel_rfl
theorem j11 : Tryd.prog.mayEnter = true := by kernel_rfl
theorem j12 : ((Rows.scriptTextsRow.lifted == Tryd.prog.liftsFinal) && ((Tryd.prog.make == some Rows.scriptTextsRow.make) && ((Rows.scriptTextsRow.kinds == kindsOf Tryd.prog Tryd.f4 Rows.scriptTextsRow) && (Rows.scriptTextsRow.pinned == Rows.scriptTextsRow.pinnedBy)))) = true := by kernel_rfl
theorem j13 : ((Rows.scriptTextsRow.veiled == (Tryd.f4.params.toList ++ Rows.scriptTextsSpec.plain.varTypes Tryd.prog ++ Tryd.f4.resultTypes.toList).any (Tryd.prog.veiledRec ·)) && Rows.scriptTextsRow.veiledFits Tryd.prog Tryd.f4.params.toList (Tryd.f4.params.toList ++ Rows.scriptTextsSpec.plain.varTypes Tryd.prog ++ Tryd.f4.resultTypes.toList)) = true := by kernel_rfl
theorem joined : joinedFacts Tryd.prog 4 Tryd.f4 Rows.scriptTextsSpec Rows.scriptTextsRow = true := joined_of (P := Tryd.prog) (f := 4) (fn := Tryd.f4) (s := Rows.scriptTextsSpec) (c := Rows.scriptTextsRow) j0 laidOut j2 j3 j4 j5 j6 j7 j8 j9 j10 j11 j12 j13
theorem over : Rows.scriptTextsRow.holds Tryd.pinned (OpenSpec.ofChange Rows.scriptTextsSpec) :=
  OpenClaim.holds_of_wide 4 Tryd.f4 rfl rfl rfl rfl rfl rfl rfl ⟨rfl, rfl, rfl, rfl, rfl⟩ rfl rfl rfl rfl rfl (by kernel_rfl) Tryd.func4 joined
    (of_decide_eq_true (by kernel_rfl)) (by unfold Func.isWrapper; first | (rw [if_pos (by decide +kernel)]; kernel_rfl) | (rw [if_neg (by decide +kernel)]; exact ⟨rfl, rfl⟩))
    (fun os started H enc _ => lifted os started H enc)
theorem proved : Rows.ScriptTextsCardSaid :=
  Claim7.holds_tied_plain_at .later [] [.data, .data, .data] true (true, "0d1a386e622465f7f5b3f5cfa72d8735a8b6bccab957f274b99eca0076c2d30d") false
    over (fun _ h => by cases h) (by kernel_rfl) (fun _ h => by cases h) scriptTexts_row_tie rfl ⟨rfl, rfl⟩ (by kernel_rfl) rfl
    (fun f fn hf hfn => by
      obtain rfl : f = 4 := Option.some.inj ((show Tryd.prog.funcNamed Rows.scriptTextsRow.func = some 4 by kernel_rfl).symm.trans hf) |>.symm
      obtain rfl : fn = Tryd.f4 := (Option.some.inj (Tryd.func4.symm.trans hfn)).symm
      exact ⟨by kernel_rfl, fun j t ht => by
        have hw : (Tryd.f4.params.toList.all fun t => Tryd.prog.wantsStandIn t == false) = true := by kernel_rfl
        have hm : t ∈ Tryd.f4.params.toList := List.mem_of_getElem? (i := j) (by rw [Array.getElem?_toList]; exact ht)
        have hz : Tryd.prog.wantsStandIn t = false := by simpa using List.all_eq_true.1 hw t hm
        exact hz⟩)
    (by kernel_rfl)
#print axioms proved
end Go.Proofs.YtniflenfpbbikaaDoor.scriptTexts
