/- Contracts and plain facts: FqI FqK. -/
import Derived.Test.YtjahkildlilabaaGreatBArith
import Derived.Test.YtjahkildlilabaaGreatBInts
import Derived.Test.YtjahkildlilabaaGreatBListsO
import Derived.Test.YtjahkildlilabaaGreatBTreeN
import Derived.Test.YtjahkildlilabaaGreatBTreeB
import Derived.Test.YtjahkildlilabaaGreatBTreeD
import Derived.Test.YtjahkildlilabaaGreatBTreeF
import Derived.Test.YtjahkildlilabaaGreatBFqC
import Derived.Test.YtjahkildlilabaaGreatBFqE
import Derived.Test.YtjahkildlilabaaGreatBFqH
import Derived.Test.YtjahkildlilabaaGreatXw
import Derived.Test.YtjahkildlilabaaGreatK
import Derived.Test.YtjahkildlilabaaGreatF0
import Derived.Test.YtjahkildlilabaaGreatF1
set_option linter.unusedVariables false
set_option linter.unusedSimpArgs false
set_option linter.unusedSectionVars false
namespace Go.X
open Go.Proofs
namespace FqI
open Arith ArithC Lists _root_.Go.X.Tree TreeC TreeD TreeE TreeF FqM FqC FqD FqE FqG FqH
def configF (d : Cf) : Cf := ((if 100 ≤ cQ d ∧ cQ d ≤ 65536 then cQ d else 3000), (if 100 ≤ cF d ∧ cF d ≤ 65536 then cF d else 15000), (if 1 ≤ cL d ∧ cL d ≤ 512 then cL d else 100), (if 1 ≤ cW d ∧ cW d ≤ 512 then cW d else 50), (if cH d ≤ 4611686018427387904 then cH d else 10000000000), (cR d), (cD d), (if 1 ≤ cCap d ∧ cCap d ≤ 1073741824 then cCap d else 100000), (if 100 ≤ cMss d ∧ cMss d ≤ 9000 then cMss d else 1000))
abbrev zC : List Lf := [.int .i64 0, .int .i64 0, .int .i64 0, .int .i64 0, .int .u64 0, .int .u64 0, .bool false, .int .i64 0, .int .i64 0]
theorem config_tri (d : Cf) : Tri Tryz.prog N_canterplay_Config [.agg (Ks.mk KC d)] [.agg KC] emp (fun r => pur (r = configF d) emp) :=
  tri_0 (call_canterplay_Config d) fun w0 S R h => by
    unfold W_canterplay_Config
    refine w_new h fun n1 w h => w_new h fun n2 w h => w_call plain_tri h fun r w h => ?_
    obtain ⟨hr, h⟩ := h.purP; rw [hr]
    refine w_new h fun n4 w h => w_setAll h (by rfl) fun w h => ?_
    have h := h.blkEq (b := n4) (L' := [.int .i64 3000, .int .i64 15000, .int .i64 100, .int .i64 50, .int .u64 10000000000, .int .u64 0, .bool false, .int .i64 100000, .int .i64 1000]) rfl
    have h := h.blkEq (b := n4) (L' := [.int .i64 3000, .int .i64 15000, .int .i64 100, .int .i64 50, .int .u64 10000000000, .int .u64 0, .bool false, .int .i64 100000, .int .i64 1000]) rfl
    have h : Own w0 S R w (blk n1 (Ks.mk KC d) ^ blk n2 zC ^ blk n4 [.int .i64 3000, .int .i64 15000, .int .i64 100, .int .i64 50, .int .u64 10000000000, .int .u64 0, .bool false, .int .i64 100000, .int .i64 1000]) := h.fin
    refine w_join h (fun _ : Unit => blk n1 (Ks.mk KC d) ^ blk n2 zC ^ blk n4 [.int .i64 (if 100 ≤ cQ d ∧ cQ d ≤ 65536 then cQ d else 3000), .int .i64 15000, .int .i64 100, .int .i64 50, .int .u64 10000000000, .int .u64 0, .bool false, .int .i64 100000, .int .i64 1000]) (fun _ => True) ?_ ?_
    rotate_left
    · refine w_join h (fun _ : Bool => blk n1 (Ks.mk KC d) ^ blk n2 zC ^ blk n4 [.int .i64 3000, .int .i64 15000, .int .i64 100, .int .i64 50, .int .u64 10000000000, .int .u64 0, .bool false, .int .i64 100000, .int .i64 1000]) (fun y : Bool => y = decide (100 ≤ cQ d ∧ cQ d ≤ 65536)) (fun y w hy h => ?_) ?_
      · rw [hy]
        refine w_ite (fun c => ?_) fun c => ?_
        · have c := of_decide_eq_true c
          refine w_ld h rfl (w_setTo h n4 [.int .i64 (if 100 ≤ cQ d ∧ cQ d ≤ 65536 then cQ d else 3000), .int .i64 15000, .int .i64 100, .int .i64 50, .int .u64 10000000000, .int .u64 0, .bool false, .int .i64 100000, .int .i64 1000] rfl rfl (by rw [if_pos c]; rfl) fun w h => ⟨trivial, h.fin⟩)
        · have c := of_decide_eq_false c
          have h := h.blkEq (b := n4) (L' := [.int .i64 (if 100 ≤ cQ d ∧ cQ d ≤ 65536 then cQ d else 3000), .int .i64 15000, .int .i64 100, .int .i64 50, .int .u64 10000000000, .int .u64 0, .bool false, .int .i64 100000, .int .i64 1000]) (by rw [if_neg c])
          exact ⟨trivial, h.fin⟩
      · refine w_ld h rfl (w_ite (fun c => w_ld h rfl ⟨?_, h.fin⟩) fun c => ⟨?_, h.fin⟩)
        · have c : cQ d ≥ 100 := by simpa using c
          show decide (cQ d ≤ 65536) = _
          rw [decide_eq_decide]; exact ⟨fun x => ⟨c, x⟩, fun x => x.2⟩
        · have c : ¬ cQ d ≥ 100 := by simpa using c
          exact (decide_eq_false fun x => c x.1).symm
    rintro - w - h
    refine w_join h (fun _ : Unit => blk n1 (Ks.mk KC d) ^ blk n2 zC ^ blk n4 [.int .i64 (if 100 ≤ cQ d ∧ cQ d ≤ 65536 then cQ d else 3000), .int .i64 (if 100 ≤ cF d ∧ cF d ≤ 65536 then cF d else 15000), .int .i64 100, .int .i64 50, .int .u64 10000000000, .int .u64 0, .bool false, .int .i64 100000, .int .i64 1000]) (fun _ => True) ?_ ?_
    rotate_left
    · refine w_join h (fun _ : Bool => blk n1 (Ks.mk KC d) ^ blk n2 zC ^ blk n4 [.int .i64 (if 100 ≤ cQ d ∧ cQ d ≤ 65536 then cQ d else 3000), .int .i64 15000, .int .i64 100, .int .i64 50, .int .u64 10000000000, .int .u64 0, .bool false, .int .i64 100000, .int .i64 1000]) (fun y : Bool => y = decide (100 ≤ cF d ∧ cF d ≤ 65536)) (fun y w hy h => ?_) ?_
      · rw [hy]
        refine w_ite (fun c => ?_) fun c => ?_
        · have c := of_decide_eq_true c
          refine w_ld h rfl (w_setTo h n4 [.int .i64 (if 100 ≤ cQ d ∧ cQ d ≤ 65536 then cQ d else 3000), .int .i64 (if 100 ≤ cF d ∧ cF d ≤ 65536 then cF d else 15000), .int .i64 100, .int .i64 50, .int .u64 10000000000, .int .u64 0, .bool false, .int .i64 100000, .int .i64 1000] rfl rfl (by rw [if_pos c]; rfl) fun w h => ⟨trivial, h.fin⟩)
        · have c := of_decide_eq_false c
          have h := h.blkEq (b := n4) (L' := [.int .i64 (if 100 ≤ cQ d ∧ cQ d ≤ 65536 then cQ d else 3000), .int .i64 (if 100 ≤ cF d ∧ cF d ≤ 65536 then cF d else 15000), .int .i64 100, .int .i64 50, .int .u64 10000000000, .int .u64 0, .bool false, .int .i64 100000, .int .i64 1000]) (by rw [if_neg c])
          exact ⟨trivial, h.fin⟩
      · refine w_ld h rfl (w_ite (fun c => w_ld h rfl ⟨?_, h.fin⟩) fun c => ⟨?_, h.fin⟩)
        · have c : cF d ≥ 100 := by simpa using c
          show decide (cF d ≤ 65536) = _
          rw [decide_eq_decide]; exact ⟨fun x => ⟨c, x⟩, fun x => x.2⟩
        · have c : ¬ cF d ≥ 100 := by simpa using c
          exact (decide_eq_false fun x => c x.1).symm
    rintro - w - h
    refine w_join h (fun _ : Unit => blk n1 (Ks.mk KC d) ^ blk n2 zC ^ blk n4 [.int .i64 (if 100 ≤ cQ d ∧ cQ d ≤ 65536 then cQ d else 3000), .int .i64 (if 100 ≤ cF d ∧ cF d ≤ 65536 then cF d else 15000), .int .i64 (if 1 ≤ cL d ∧ cL d ≤ 512 then cL d else 100), .int .i64 50, .int .u64 10000000000, .int .u64 0, .bool false, .int .i64 100000, .int .i64 1000]) (fun _ => True) ?_ ?_
    rotate_left
    · refine w_join h (fun _ : Bool => blk n1 (Ks.mk KC d) ^ blk n2 zC ^ blk n4 [.int .i64 (if 100 ≤ cQ d ∧ cQ d ≤ 65536 then cQ d else 3000), .int .i64 (if 100 ≤ cF d ∧ cF d ≤ 65536 then cF d else 15000), .int .i64 100, .int .i64 50, .int .u64 10000000000, .int .u64 0, .bool false, .int .i64 100000, .int .i64 1000]) (fun y : Bool => y = decide (1 ≤ cL d ∧ cL d ≤ 512)) (fun y w hy h => ?_) ?_
      · rw [hy]
        refine w_ite (fun c => ?_) fun c => ?_
        · have c := of_decide_eq_true c
          refine w_ld h rfl (w_setTo h n4 [.int .i64 (if 100 ≤ cQ d ∧ cQ d ≤ 65536 then cQ d else 3000), .int .i64 (if 100 ≤ cF d ∧ cF d ≤ 65536 then cF d else 15000), .int .i64 (if 1 ≤ cL d ∧ cL d ≤ 512 then cL d else 100), .int .i64 50, .int .u64 10000000000, .int .u64 0, .bool false, .int .i64 100000, .int .i64 1000] rfl rfl (by rw [if_pos c]; rfl) fun w h => ⟨trivial, h.fin⟩)
        · have c := of_decide_eq_false c
          have h := h.blkEq (b := n4) (L' := [.int .i64 (if 100 ≤ cQ d ∧ cQ d ≤ 65536 then cQ d else 3000), .int .i64 (if 100 ≤ cF d ∧ cF d ≤ 65536 then cF d else 15000), .int .i64 (if 1 ≤ cL d ∧ cL d ≤ 512 then cL d else 100), .int .i64 50, .int .u64 10000000000, .int .u64 0, .bool false, .int .i64 100000, .int .i64 1000]) (by rw [if_neg c])
          exact ⟨trivial, h.fin⟩
      · refine w_ld h rfl (w_ite (fun c => w_ld h rfl ⟨?_, h.fin⟩) fun c => ⟨?_, h.fin⟩)
        · have c : cL d ≥ 1 := by simpa using c
          show decide (cL d ≤ 512) = _
          rw [decide_eq_decide]; exact ⟨fun x => ⟨c, x⟩, fun x => x.2⟩
        · have c : ¬ cL d ≥ 1 := by simpa using c
          exact (decide_eq_false fun x => c x.1).symm
    rintro - w - h
    refine w_join h (fun _ : Unit => blk n1 (Ks.mk KC d) ^ blk n2 zC ^ blk n4 [.int .i64 (if 100 ≤ cQ d ∧ cQ d ≤ 65536 then cQ d else 3000), .int .i64 (if 100 ≤ cF d ∧ cF d ≤ 65536 then cF d else 15000), .int .i64 (if 1 ≤ cL d ∧ cL d ≤ 512 then cL d else 100), .int .i64 (if 1 ≤ cW d ∧ cW d ≤ 512 then cW d else 50), .int .u64 10000000000, .int .u64 0, .bool false, .int .i64 100000, .int .i64 1000]) (fun _ => True) ?_ ?_
    rotate_left
    · refine w_join h (fun _ : Bool => blk n1 (Ks.mk KC d) ^ blk n2 zC ^ blk n4 [.int .i64 (if 100 ≤ cQ d ∧ cQ d ≤ 65536 then cQ d else 3000), .int .i64 (if 100 ≤ cF d ∧ cF d ≤ 65536 then cF d else 15000), .int .i64 (if 1 ≤ cL d ∧ cL d ≤ 512 then cL d else 100), .int .i64 50, .int .u64 10000000000, .int .u64 0, .bool false, .int .i64 100000, .int .i64 1000]) (fun y : Bool => y = decide (1 ≤ cW d ∧ cW d ≤ 512)) (fun y w hy h => ?_) ?_
      · rw [hy]
        refine w_ite (fun c => ?_) fun c => ?_
        · have c := of_decide_eq_true c
          refine w_ld h rfl (w_setTo h n4 [.int .i64 (if 100 ≤ cQ d ∧ cQ d ≤ 65536 then cQ d else 3000), .int .i64 (if 100 ≤ cF d ∧ cF d ≤ 65536 then cF d else 15000), .int .i64 (if 1 ≤ cL d ∧ cL d ≤ 512 then cL d else 100), .int .i64 (if 1 ≤ cW d ∧ cW d ≤ 512 then cW d else 50), .int .u64 10000000000, .int .u64 0, .bool false, .int .i64 100000, .int .i64 1000] rfl rfl (by rw [if_pos c]; rfl) fun w h => ⟨trivial, h.fin⟩)
        · have c := of_decide_eq_false c
          have h := h.blkEq (b := n4) (L' := [.int .i64 (if 100 ≤ cQ d ∧ cQ d ≤ 65536 then cQ d else 3000), .int .i64 (if 100 ≤ cF d ∧ cF d ≤ 65536 then cF d else 15000), .int .i64 (if 1 ≤ cL d ∧ cL d ≤ 512 then cL d else 100), .int .i64 (if 1 ≤ cW d ∧ cW d ≤ 512 then cW d else 50), .int .u64 10000000000, .int .u64 0, .bool false, .int .i64 100000, .int .i64 1000]) (by rw [if_neg c])
          exact ⟨trivial, h.fin⟩
      · refine w_ld h rfl (w_ite (fun c => w_ld h rfl ⟨?_, h.fin⟩) fun c => ⟨?_, h.fin⟩)
        · have c : cW d ≥ 1 := by simpa using c
          show decide (cW d ≤ 512) = _
          rw [decide_eq_decide]; exact ⟨fun x => ⟨c, x⟩, fun x => x.2⟩
        · have c : ¬ cW d ≥ 1 := by simpa using c
          exact (decide_eq_false fun x => c x.1).symm
    rintro - w - h
    refine w_join h (fun _ : Unit => blk n1 (Ks.mk KC d) ^ blk n2 zC ^ blk n4 [.int .i64 (if 100 ≤ cQ d ∧ cQ d ≤ 65536 then cQ d else 3000), .int .i64 (if 100 ≤ cF d ∧ cF d ≤ 65536 then cF d else 15000), .int .i64 (if 1 ≤ cL d ∧ cL d ≤ 512 then cL d else 100), .int .i64 (if 1 ≤ cW d ∧ cW d ≤ 512 then cW d else 50), .int .u64 (if cH d ≤ 4611686018427387904 then cH d else 10000000000), .int .u64 0, .bool false, .int .i64 100000, .int .i64 1000]) (fun _ => True) ?_ ?_
    rotate_left
    · refine w_ld h rfl (w_ite (fun c => ?_) fun c => ?_)
      · have c : cH d ≤ 4611686018427387904 := by simpa using c
        refine w_ld h rfl (w_setTo h n4 [.int .i64 (if 100 ≤ cQ d ∧ cQ d ≤ 65536 then cQ d else 3000), .int .i64 (if 100 ≤ cF d ∧ cF d ≤ 65536 then cF d else 15000), .int .i64 (if 1 ≤ cL d ∧ cL d ≤ 512 then cL d else 100), .int .i64 (if 1 ≤ cW d ∧ cW d ≤ 512 then cW d else 50), .int .u64 (if cH d ≤ 4611686018427387904 then cH d else 10000000000), .int .u64 0, .bool false, .int .i64 100000, .int .i64 1000] rfl rfl (by rw [if_pos c]; rfl) fun w h => ⟨trivial, h.fin⟩)
      · have c : ¬ cH d ≤ 4611686018427387904 := by simpa using c
        have h := h.blkEq (b := n4) (L' := [.int .i64 (if 100 ≤ cQ d ∧ cQ d ≤ 65536 then cQ d else 3000), .int .i64 (if 100 ≤ cF d ∧ cF d ≤ 65536 then cF d else 15000), .int .i64 (if 1 ≤ cL d ∧ cL d ≤ 512 then cL d else 100), .int .i64 (if 1 ≤ cW d ∧ cW d ≤ 512 then cW d else 50), .int .u64 (if cH d ≤ 4611686018427387904 then cH d else 10000000000), .int .u64 0, .bool false, .int .i64 100000, .int .i64 1000]) (by rw [if_neg c])
        exact ⟨trivial, h.fin⟩
    rintro - w - h
    refine w_join h (fun _ : Unit => blk n1 (Ks.mk KC d) ^ blk n2 zC ^ blk n4 [.int .i64 (if 100 ≤ cQ d ∧ cQ d ≤ 65536 then cQ d else 3000), .int .i64 (if 100 ≤ cF d ∧ cF d ≤ 65536 then cF d else 15000), .int .i64 (if 1 ≤ cL d ∧ cL d ≤ 512 then cL d else 100), .int .i64 (if 1 ≤ cW d ∧ cW d ≤ 512 then cW d else 50), .int .u64 (if cH d ≤ 4611686018427387904 then cH d else 10000000000), .int .u64 0, .bool false, .int .i64 (if 1 ≤ cCap d ∧ cCap d ≤ 1073741824 then cCap d else 100000), .int .i64 1000]) (fun _ => True) ?_ ?_
    rotate_left
    · refine w_join h (fun _ : Bool => blk n1 (Ks.mk KC d) ^ blk n2 zC ^ blk n4 [.int .i64 (if 100 ≤ cQ d ∧ cQ d ≤ 65536 then cQ d else 3000), .int .i64 (if 100 ≤ cF d ∧ cF d ≤ 65536 then cF d else 15000), .int .i64 (if 1 ≤ cL d ∧ cL d ≤ 512 then cL d else 100), .int .i64 (if 1 ≤ cW d ∧ cW d ≤ 512 then cW d else 50), .int .u64 (if cH d ≤ 4611686018427387904 then cH d else 10000000000), .int .u64 0, .bool false, .int .i64 100000, .int .i64 1000]) (fun y : Bool => y = decide (1 ≤ cCap d ∧ cCap d ≤ 1073741824)) (fun y w hy h => ?_) ?_
      · rw [hy]
        refine w_ite (fun c => ?_) fun c => ?_
        · have c := of_decide_eq_true c
          refine w_ld h rfl (w_setTo h n4 [.int .i64 (if 100 ≤ cQ d ∧ cQ d ≤ 65536 then cQ d else 3000), .int .i64 (if 100 ≤ cF d ∧ cF d ≤ 65536 then cF d else 15000), .int .i64 (if 1 ≤ cL d ∧ cL d ≤ 512 then cL d else 100), .int .i64 (if 1 ≤ cW d ∧ cW d ≤ 512 then cW d else 50), .int .u64 (if cH d ≤ 4611686018427387904 then cH d else 10000000000), .int .u64 0, .bool false, .int .i64 (if 1 ≤ cCap d ∧ cCap d ≤ 1073741824 then cCap d else 100000), .int .i64 1000] rfl rfl (by rw [if_pos c]; rfl) fun w h => ⟨trivial, h.fin⟩)
        · have c := of_decide_eq_false c
          have h := h.blkEq (b := n4) (L' := [.int .i64 (if 100 ≤ cQ d ∧ cQ d ≤ 65536 then cQ d else 3000), .int .i64 (if 100 ≤ cF d ∧ cF d ≤ 65536 then cF d else 15000), .int .i64 (if 1 ≤ cL d ∧ cL d ≤ 512 then cL d else 100), .int .i64 (if 1 ≤ cW d ∧ cW d ≤ 512 then cW d else 50), .int .u64 (if cH d ≤ 4611686018427387904 then cH d else 10000000000), .int .u64 0, .bool false, .int .i64 (if 1 ≤ cCap d ∧ cCap d ≤ 1073741824 then cCap d else 100000), .int .i64 1000]) (by rw [if_neg c])
          exact ⟨trivial, h.fin⟩
      · refine w_ld h rfl (w_ite (fun c => w_ld h rfl ⟨?_, h.fin⟩) fun c => ⟨?_, h.fin⟩)
        · have c : cCap d ≥ 1 := by simpa using c
          show decide (cCap d ≤ 1073741824) = _
          rw [decide_eq_decide]; exact ⟨fun x => ⟨c, x⟩, fun x => x.2⟩
        · have c : ¬ cCap d ≥ 1 := by simpa using c
          exact (decide_eq_false fun x => c x.1).symm
    rintro - w - h
    refine w_join h (fun _ : Unit => blk n1 (Ks.mk KC d) ^ blk n2 zC ^ blk n4 [.int .i64 (if 100 ≤ cQ d ∧ cQ d ≤ 65536 then cQ d else 3000), .int .i64 (if 100 ≤ cF d ∧ cF d ≤ 65536 then cF d else 15000), .int .i64 (if 1 ≤ cL d ∧ cL d ≤ 512 then cL d else 100), .int .i64 (if 1 ≤ cW d ∧ cW d ≤ 512 then cW d else 50), .int .u64 (if cH d ≤ 4611686018427387904 then cH d else 10000000000), .int .u64 0, .bool false, .int .i64 (if 1 ≤ cCap d ∧ cCap d ≤ 1073741824 then cCap d else 100000), .int .i64 (if 100 ≤ cMss d ∧ cMss d ≤ 9000 then cMss d else 1000)]) (fun _ => True) ?_ ?_
    rotate_left
    · refine w_join h (fun _ : Bool => blk n1 (Ks.mk KC d) ^ blk n2 zC ^ blk n4 [.int .i64 (if 100 ≤ cQ d ∧ cQ d ≤ 65536 then cQ d else 3000), .int .i64 (if 100 ≤ cF d ∧ cF d ≤ 65536 then cF d else 15000), .int .i64 (if 1 ≤ cL d ∧ cL d ≤ 512 then cL d else 100), .int .i64 (if 1 ≤ cW d ∧ cW d ≤ 512 then cW d else 50), .int .u64 (if cH d ≤ 4611686018427387904 then cH d else 10000000000), .int .u64 0, .bool false, .int .i64 (if 1 ≤ cCap d ∧ cCap d ≤ 1073741824 then cCap d else 100000), .int .i64 1000]) (fun y : Bool => y = decide (100 ≤ cMss d ∧ cMss d ≤ 9000)) (fun y w hy h => ?_) ?_
      · rw [hy]
        refine w_ite (fun c => ?_) fun c => ?_
        · have c := of_decide_eq_true c
          refine w_ld h rfl (w_setTo h n4 [.int .i64 (if 100 ≤ cQ d ∧ cQ d ≤ 65536 then cQ d else 3000), .int .i64 (if 100 ≤ cF d ∧ cF d ≤ 65536 then cF d else 15000), .int .i64 (if 1 ≤ cL d ∧ cL d ≤ 512 then cL d else 100), .int .i64 (if 1 ≤ cW d ∧ cW d ≤ 512 then cW d else 50), .int .u64 (if cH d ≤ 4611686018427387904 then cH d else 10000000000), .int .u64 0, .bool false, .int .i64 (if 1 ≤ cCap d ∧ cCap d ≤ 1073741824 then cCap d else 100000), .int .i64 (if 100 ≤ cMss d ∧ cMss d ≤ 9000 then cMss d else 1000)] rfl rfl (by rw [if_pos c]; rfl) fun w h => ⟨trivial, h.fin⟩)
        · have c := of_decide_eq_false c
          have h := h.blkEq (b := n4) (L' := [.int .i64 (if 100 ≤ cQ d ∧ cQ d ≤ 65536 then cQ d else 3000), .int .i64 (if 100 ≤ cF d ∧ cF d ≤ 65536 then cF d else 15000), .int .i64 (if 1 ≤ cL d ∧ cL d ≤ 512 then cL d else 100), .int .i64 (if 1 ≤ cW d ∧ cW d ≤ 512 then cW d else 50), .int .u64 (if cH d ≤ 4611686018427387904 then cH d else 10000000000), .int .u64 0, .bool false, .int .i64 (if 1 ≤ cCap d ∧ cCap d ≤ 1073741824 then cCap d else 100000), .int .i64 (if 100 ≤ cMss d ∧ cMss d ≤ 9000 then cMss d else 1000)]) (by rw [if_neg c])
          exact ⟨trivial, h.fin⟩
      · refine w_ld h rfl (w_ite (fun c => w_ld h rfl ⟨?_, h.fin⟩) fun c => ⟨?_, h.fin⟩)
        · have c : cMss d ≥ 100 := by simpa using c
          show decide (cMss d ≤ 9000) = _
          rw [decide_eq_decide]; exact ⟨fun x => ⟨c, x⟩, fun x => x.2⟩
        · have c : ¬ cMss d ≥ 100 := by simpa using c
          exact (decide_eq_false fun x => c x.1).symm
    rintro - w - h
    refine w_drw h fun w h => w_ld h rfl (w_ld h rfl (w_setTo h n4 [.int .i64 (if 100 ≤ cQ d ∧ cQ d ≤ 65536 then cQ d else 3000), .int .i64 (if 100 ≤ cF d ∧ cF d ≤ 65536 then cF d else 15000), .int .i64 (if 1 ≤ cL d ∧ cL d ≤ 512 then cL d else 100), .int .i64 (if 1 ≤ cW d ∧ cW d ≤ 512 then cW d else 50), .int .u64 (if cH d ≤ 4611686018427387904 then cH d else 10000000000), .int .u64 (cR d), .bool false, .int .i64 (if 1 ≤ cCap d ∧ cCap d ≤ 1073741824 then cCap d else 100000), .int .i64 (if 100 ≤ cMss d ∧ cMss d ≤ 9000 then cMss d else 1000)] rfl rfl rfl fun w h => w_chk h rfl (w_setTo h n4 [.int .i64 (if 100 ≤ cQ d ∧ cQ d ≤ 65536 then cQ d else 3000), .int .i64 (if 100 ≤ cF d ∧ cF d ≤ 65536 then cF d else 15000), .int .i64 (if 1 ≤ cL d ∧ cL d ≤ 512 then cL d else 100), .int .i64 (if 1 ≤ cW d ∧ cW d ≤ 512 then cW d else 50), .int .u64 (if cH d ≤ 4611686018427387904 then cH d else 10000000000), .int .u64 (cR d), .bool (cD d), .int .i64 (if 1 ≤ cCap d ∧ cCap d ≤ 1073741824 then cCap d else 100000), .int .i64 (if 100 ≤ cMss d ∧ cMss d ≤ 9000 then cMss d else 1000)] rfl rfl rfl fun w h => ?_)))
    refine w_ldAll (b := n4) (x := configF d) h rfl (w_setAll h (by rfl) fun w h => w_ldAll (b := n2) (x := configF d) h rfl ?_)
    exact Own.retP rfl h.emp'
theorem config_may (d : Cf) : may (configF d) = true := by
  unfold may configF
  simp only [Bool.and_eq_true, decide_eq_true_eq]
  refine ⟨?_, ?_, ?_, ?_, ?_, ?_, ?_⟩ <;> dsimp only [cQ, cF, cL, cW, cH, cCap, cMss] <;> split <;> omega
theorem config_ok {d : Cf} (h0 : 0 ≤ cH d) (hr : U (cR d)) : OkC (configF d) := may_ok (config_may d) (by unfold configF; dsimp only [cH]; split <;> (try assumption); omega) hr
def segF (s : Sg) : Sg := (IntKind.i64.wrap ((IntKind.u64.wrap (sK s)).tmod 8), sFr s, IntKind.i64.wrap (1 + IntKind.i64.wrap ((IntKind.u64.wrap (sLn s)).tmod 65536)), sSt s, sAg s)
theorem seg_tri (s : Sg) : Tri Tryz.prog N_canterplay_Seg [.agg (Ks.mk KS s)] [.agg KS] emp (fun r => pur (r = segF s) emp) :=
  tri_0 (call_canterplay_Seg s) fun w0 S R h => by
    unfold W_canterplay_Seg
    refine w_new h fun n1 w h => w_new h fun n2 w h => ?_
    refine w_ld h rfl (w_setTo h n1 [.int .i64 (segF s).1, .int .u64 (sFr s), .int .i64 (sLn s), .int .u64 (sSt s), .bool (sAg s)] rfl rfl rfl fun w h => ?_)
    refine w_ld h rfl (w_setTo h n1 (Ks.mk KS (segF s)) rfl rfl rfl fun w h => ?_)
    refine w_ldAll (b := n1) (x := segF s) h rfl (w_setAll h (by rfl) fun w h => w_ldAll (b := n2) (x := segF s) h rfl ?_)
    exact Own.retP rfl h.emp'
theorem wf_u {n : Int} (h : (Lit.int .u64 n).wf = true) : U n := by
  have h : IntKind.u64.min ≤ n ∧ n ≤ IntKind.u64.max := by simpa [Lit.wf] using h
  have e1 : IntKind.u64.min = 0 := by decide
  have e2 : IntKind.u64.max = 18446744073709551615 := by decide
  unfold U
  omega
theorem okC_of {d : Cf} (h : ∀ k n, Lf.int k n ∈ Ks.mk KC d → (Lit.int k n).wf = true) : 0 ≤ cH d ∧ U (cR d) :=
  ⟨(wf_u (h .u64 (cH d) (List.mem_of_getElem? (i := 4) rfl))).1, wf_u (h .u64 (cR d) (List.mem_of_getElem? (i := 5) rfl))⟩
end FqI

namespace FqK
open Arith ArithC Lists _root_.Go.X.Tree TreeC TreeD TreeE TreeF FqM FqC FqD FqE FqG FqH FqI
/-! ### One flow alone -/
def one (c : Cf) (i : Nat) (f : Fl) (lv : LV) (ks : List Key) : Qm := ⟨c, upF (fun _ => none) i (some f), lv, ks, f.sg.length⟩
/-! ### What departs -/
theorem due_none {v : Qm} {now : Int} (h : ∀ k ∈ v.ks, ¬ k.1 ≤ now) : dueF v now = v := by
  have h1 : v.ks.takeWhile (fun k => decide (k.1 ≤ now)) = [] := by
    cases e : v.ks with
    | nil => rfl
    | cons k l => rw [List.takeWhile_cons, if_neg (by have := h k (by rw [e]; simp); simpa using this)]
  have h2 : v.ks.dropWhile (fun k => decide (k.1 ≤ now)) = v.ks := by
    cases e : v.ks with
    | nil => rfl
    | cons k l => rw [List.dropWhile_cons, if_neg (by have := h k (by rw [e]; simp); simpa using this)]
  show (⟨v.c, v.fl, (v.lv.1, v.lv.2 ++ (dueK v now).map Prod.snd), v.ks.dropWhile _, v.n⟩ : Qm) = v
  unfold dueK
  rw [h1, h2]
  simp
/-- What stands at the head decides. -/
def deqH (now : Int) (rates : List Int) (u : Qm) : Option Sg × Qm := heads now rates (mu u + 1) u
theorem deq_eq (v : Qm) (now : Int) (rates : List Int) : deqF v now rates = deqH now rates (dueF v now) := rfl
/-! ### One flow departs -/
end FqK


end Go.X
