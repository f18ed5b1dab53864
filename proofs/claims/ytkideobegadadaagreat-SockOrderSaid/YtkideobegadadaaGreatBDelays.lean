/- Contracts and plain facts: Conf Delays. -/
import Derived.Test.YtkideobegadadaaGreatBArith
import Derived.Test.YtkideobegadadaaGreatBWf
import Derived.Test.YtkideobegadadaaGreatXw
import Derived.Test.YtkideobegadadaaGreatK
import Derived.Test.YtkideobegadadaaGreatF0
import Derived.Test.YtkideobegadadaaGreatF1
set_option linter.unusedVariables false
set_option linter.unusedSimpArgs false
set_option linter.unusedSectionVars false
namespace Go.X
open Go.Proofs
namespace Conf
open Arith
abbrev Cf := Int × Int × Int × Int × Int × Int × Bool × Int × Int
abbrev KC : Ks := [.int .i64, .int .i64, .int .i64, .int .i64, .int .u64, .int .u64, .bool, .int .i64, .int .i64]
abbrev cQ (c : Cf) : Int := c.1
abbrev cF (c : Cf) : Int := c.2.1
abbrev cL (c : Cf) : Int := c.2.2.1
abbrev cW (c : Cf) : Int := c.2.2.2.1
abbrev cH (c : Cf) : Int := c.2.2.2.2.1
abbrev cR (c : Cf) : Int := c.2.2.2.2.2.1
abbrev cD (c : Cf) : Bool := c.2.2.2.2.2.2.1
abbrev cCap (c : Cf) : Int := c.2.2.2.2.2.2.2.1
abbrev cMss (c : Cf) : Int := c.2.2.2.2.2.2.2.2
def may (c : Cf) : Bool := decide (100 ≤ cQ c ∧ cQ c ≤ 65536) && (decide (100 ≤ cF c ∧ cF c ≤ 65536) && (decide (1 ≤ cL c ∧ cL c ≤ 512) && (decide (1 ≤ cW c ∧ cW c ≤ 512) && (decide (cH c ≤ 4611686018427387904) && (decide (1 ≤ cCap c ∧ cCap c ≤ 1073741824) && decide (100 ≤ cMss c ∧ cMss c ≤ 9000))))))
structure OkC (c : Cf) : Prop where
  q : 100 ≤ cQ c ∧ cQ c ≤ 65536
  f : 100 ≤ cF c ∧ cF c ≤ 65536
  l : 1 ≤ cL c ∧ cL c ≤ 512
  w : 1 ≤ cW c ∧ cW c ≤ 512
  h : 0 ≤ cH c ∧ cH c ≤ 4611686018427387904
  r : U (cR c)
  cap : 1 ≤ cCap c ∧ cCap c ≤ 1073741824
  mss : 100 ≤ cMss c ∧ cMss c ≤ 9000
theorem may_ok {c : Cf} (h : may c = true) (h0 : 0 ≤ cH c) (hr : U (cR c)) : OkC c := by
  simp only [may, Bool.and_eq_true, decide_eq_true_eq] at h
  exact ⟨h.1, h.2.1, h.2.2.1, h.2.2.2.1, ⟨h0, h.2.2.2.2.1⟩, hr, h.2.2.2.2.2.1, h.2.2.2.2.2.2⟩
abbrev plainC : Cf := (3000, 15000, 100, 50, 10000000000, 0, false, 100000, 1000)
theorem plain_tri : Tri Tryz.prog N_canterref20_Plain [] [.agg KC] emp (fun r => pur (r = plainC) emp) :=
  tri_0 call_canterref20_Plain fun w0 S R h => by
    unfold W_canterref20_Plain
    refine w_new h fun n1 w h => w_setAll h (by rfl) fun w h => w_ldAll (b := n1) (x := plainC) h rfl ?_
    exact Own.retP rfl h.emp'
def configF (d : Cf) : Cf := ((if 100 ≤ cQ d ∧ cQ d ≤ 65536 then cQ d else 3000), (if 100 ≤ cF d ∧ cF d ≤ 65536 then cF d else 15000), (if 1 ≤ cL d ∧ cL d ≤ 512 then cL d else 100), (if 1 ≤ cW d ∧ cW d ≤ 512 then cW d else 50), (if cH d ≤ 4611686018427387904 then cH d else 10000000000), (cR d), (cD d), (if 1 ≤ cCap d ∧ cCap d ≤ 1073741824 then cCap d else 100000), (if 100 ≤ cMss d ∧ cMss d ≤ 9000 then cMss d else 1000))
abbrev zC : List Lf := [.int .i64 0, .int .i64 0, .int .i64 0, .int .i64 0, .int .u64 0, .int .u64 0, .bool false, .int .i64 0, .int .i64 0]
theorem config_tri (d : Cf) : Tri Tryz.prog N_canterplay_Config [.agg (Ks.mk KC d)] [.agg KC] emp (fun r => pur (r = configF d) emp) :=
  tri_0 (call_canterplay_Config d) fun w0 S R h => by
    unfold W_canterplay_Config
    refine w_new h fun n1 w h => w_new h fun n2 w h => w_call plain_tri h fun r w h => ?_
    obtain ⟨hr, h⟩ := h.purP; rw [hr]
    refine w_new h fun n4 w h => w_setAll h (by rfl) fun w h => ?_
    have h := h.blkEq (b := n4) (L' := [.int .i64 3000, .int .i64 15000, .int .i64 100, .int .i64 50, .int .u64 10000000000, .int .u64 0, .bool false, .int .i64 100000, .int .i64 1000]) rfl
    have h := h.blkEq (b := n4) (L' := [.int .i64 3000, .int .i64 15000, .int .i64 100, .int .i64 50, .int .u64 10000000000, .int .u64 0, .bool false, .int .i64 100000, .int .i64 1000]) rfl
    have h : Own w0 S R w (blk n1 (Ks.mk KC d) ^ blk n2 zC ^ blk n4 [.int .i64 3000, .int .i64 15000, .int .i64 100, .int .i64 50, .int .u64 10000000000, .int .u64 0, .bool false, .int .i64 100000, .int .i64 1000]) := h.fin
    refine w_join h (fun _ : Unit => blk n1 (Ks.mk KC d) ^ blk n2 zC ^ blk n4 [.int .i64 (if 100 ≤ cQ d ∧ cQ d ≤ 65536 then cQ d else 3000), .int .i64 15000, .int .i64 100, .int .i64 50, .int .u64 10000000000, .int .u64 0, .bool false, .int .i64 100000, .int .i64 1000]) (fun _ => True) ?_ ?_
    rotate_left
    · refine w_join h (fun _ : Bool => blk n1 (Ks.mk KC d) ^ blk n2 zC ^ blk n4 [.int .i64 3000, .int .i64 15000, .int .i64 100, .int .i64 50, .int .u64 10000000000, .int .u64 0, .bool false, .int .i64 100000, .int .i64 1000]) (fun y : Bool => y = decide (100 ≤ cQ d ∧ cQ d ≤ 65536)) (fun y w hy h => ?_) ?_
      · rw [hy]
        refine w_ite (fun c => ?_) fun c => ?_
        · have c := of_decide_eq_true c
          refine w_ld h rfl (w_setTo h n4 [.int .i64 (if 100 ≤ cQ d ∧ cQ d ≤ 65536 then cQ d else 3000), .int .i64 15000, .int .i64 100, .int .i64 50, .int .u64 10000000000, .int .u64 0, .bool false, .int .i64 100000, .int .i64 1000] rfl rfl (by rw [if_pos c]; rfl) fun w h => ⟨trivial, h.fin⟩)
        · have c := of_decide_eq_false c
          have h := h.blkEq (b := n4) (L' := [.int .i64 (if 100 ≤ cQ d ∧ cQ d ≤ 65536 then cQ d else 3000), .int .i64 15000, .int .i64 100, .int .i64 50, .int .u64 10000000000, .int .u64 0, .bool false, .int .i64 100000, .int .i64 1000]) (by rw [if_neg c])
          exact ⟨trivial, h.fin⟩
      · refine w_ld h rfl (w_ite (fun c => w_ld h rfl ⟨?_, h.fin⟩) fun c => ⟨?_, h.fin⟩)
        · have c : cQ d ≥ 100 := by simpa using c
          show decide (cQ d ≤ 65536) = _
          rw [decide_eq_decide]; exact ⟨fun x => ⟨c, x⟩, fun x => x.2⟩
        · have c : ¬ cQ d ≥ 100 := by simpa using c
          exact (decide_eq_false fun x => c x.1).symm
    rintro - w - h
    refine w_join h (fun _ : Unit => blk n1 (Ks.mk KC d) ^ blk n2 zC ^ blk n4 [.int .i64 (if 100 ≤ cQ d ∧ cQ d ≤ 65536 then cQ d else 3000), .int .i64 (if 100 ≤ cF d ∧ cF d ≤ 65536 then cF d else 15000), .int .i64 100, .int .i64 50, .int .u64 10000000000, .int .u64 0, .bool false, .int .i64 100000, .int .i64 1000]) (fun _ => True) ?_ ?_
    rotate_left
    · refine w_join h (fun _ : Bool => blk n1 (Ks.mk KC d) ^ blk n2 zC ^ blk n4 [.int .i64 (if 100 ≤ cQ d ∧ cQ d ≤ 65536 then cQ d else 3000), .int .i64 15000, .int .i64 100, .int .i64 50, .int .u64 10000000000, .int .u64 0, .bool false, .int .i64 100000, .int .i64 1000]) (fun y : Bool => y = decide (100 ≤ cF d ∧ cF d ≤ 65536)) (fun y w hy h => ?_) ?_
      · rw [hy]
        refine w_ite (fun c => ?_) fun c => ?_
        · have c := of_decide_eq_true c
          refine w_ld h rfl (w_setTo h n4 [.int .i64 (if 100 ≤ cQ d ∧ cQ d ≤ 65536 then cQ d else 3000), .int .i64 (if 100 ≤ cF d ∧ cF d ≤ 65536 then cF d else 15000), .int .i64 100, .int .i64 50, .int .u64 10000000000, .int .u64 0, .bool false, .int .i64 100000, .int .i64 1000] rfl rfl (by rw [if_pos c]; rfl) fun w h => ⟨trivial, h.fin⟩)
        · have c := of_decide_eq_false c
          have h := h.blkEq (b := n4) (L' := [.int .i64 (if 100 ≤ cQ d ∧ cQ d ≤ 65536 then cQ d else 3000), .int .i64 (if 100 ≤ cF d ∧ cF d ≤ 65536 then cF d else 15000), .int .i64 100, .int .i64 50, .int .u64 10000000000, .int .u64 0, .bool false, .int .i64 100000, .int .i64 1000]) (by rw [if_neg c])
          exact ⟨trivial, h.fin⟩
      · refine w_ld h rfl (w_ite (fun c => w_ld h rfl ⟨?_, h.fin⟩) fun c => ⟨?_, h.fin⟩)
        · have c : cF d ≥ 100 := by simpa using c
          show decide (cF d ≤ 65536) = _
          rw [decide_eq_decide]; exact ⟨fun x => ⟨c, x⟩, fun x => x.2⟩
        · have c : ¬ cF d ≥ 100 := by simpa using c
          exact (decide_eq_false fun x => c x.1).symm
    rintro - w - h
    refine w_join h (fun _ : Unit => blk n1 (Ks.mk KC d) ^ blk n2 zC ^ blk n4 [.int .i64 (if 100 ≤ cQ d ∧ cQ d ≤ 65536 then cQ d else 3000), .int .i64 (if 100 ≤ cF d ∧ cF d ≤ 65536 then cF d else 15000), .int .i64 (if 1 ≤ cL d ∧ cL d ≤ 512 then cL d else 100), .int .i64 50, .int .u64 10000000000, .int .u64 0, .bool false, .int .i64 100000, .int .i64 1000]) (fun _ => True) ?_ ?_
    rotate_left
    · refine w_join h (fun _ : Bool => blk n1 (Ks.mk KC d) ^ blk n2 zC ^ blk n4 [.int .i64 (if 100 ≤ cQ d ∧ cQ d ≤ 65536 then cQ d else 3000), .int .i64 (if 100 ≤ cF d ∧ cF d ≤ 65536 then cF d else 15000), .int .i64 100, .int .i64 50, .int .u64 10000000000, .int .u64 0, .bool false, .int .i64 100000, .int .i64 1000]) (fun y : Bool => y = decide (1 ≤ cL d ∧ cL d ≤ 512)) (fun y w hy h => ?_) ?_
      · rw [hy]
        refine w_ite (fun c => ?_) fun c => ?_
        · have c := of_decide_eq_true c
          refine w_ld h rfl (w_setTo h n4 [.int .i64 (if 100 ≤ cQ d ∧ cQ d ≤ 65536 then cQ d else 3000), .int .i64 (if 100 ≤ cF d ∧ cF d ≤ 65536 then cF d else 15000), .int .i64 (if 1 ≤ cL d ∧ cL d ≤ 512 then cL d else 100), .int .i64 50, .int .u64 10000000000, .int .u64 0, .bool false, .int .i64 100000, .int .i64 1000] rfl rfl (by rw [if_pos c]; rfl) fun w h => ⟨trivial, h.fin⟩)
        · have c := of_decide_eq_false c
          have h := h.blkEq (b := n4) (L' := [.int .i64 (if 100 ≤ cQ d ∧ cQ d ≤ 65536 then cQ d else 3000), .int .i64 (if 100 ≤ cF d ∧ cF d ≤ 65536 then cF d else 15000), .int .i64 (if 1 ≤ cL d ∧ cL d ≤ 512 then cL d else 100), .int .i64 50, .int .u64 10000000000, .int .u64 0, .bool false, .int .i64 100000, .int .i64 1000]) (by rw [if_neg c])
          exact ⟨trivial, h.fin⟩
      · refine w_ld h rfl (w_ite (fun c => w_ld h rfl ⟨?_, h.fin⟩) fun c => ⟨?_, h.fin⟩)
        · have c : cL d ≥ 1 := by simpa using c
          show decide (cL d ≤ 512) = _
          rw [decide_eq_decide]; exact ⟨fun x => ⟨c, x⟩, fun x => x.2⟩
        · have c : ¬ cL d ≥ 1 := by simpa using c
          exact (decide_eq_false fun x => c x.1).symm
    rintro - w - h
    refine w_join h (fun _ : Unit => blk n1 (Ks.mk KC d) ^ blk n2 zC ^ blk n4 [.int .i64 (if 100 ≤ cQ d ∧ cQ d ≤ 65536 then cQ d else 3000), .int .i64 (if 100 ≤ cF d ∧ cF d ≤ 65536 then cF d else 15000), .int .i64 (if 1 ≤ cL d ∧ cL d ≤ 512 then cL d else 100), .int .i64 (if 1 ≤ cW d ∧ cW d ≤ 512 then cW d else 50), .int .u64 10000000000, .int .u64 0, .bool false, .int .i64 100000, .int .i64 1000]) (fun _ => True) ?_ ?_
    rotate_left
    · refine w_join h (fun _ : Bool => blk n1 (Ks.mk KC d) ^ blk n2 zC ^ blk n4 [.int .i64 (if 100 ≤ cQ d ∧ cQ d ≤ 65536 then cQ d else 3000), .int .i64 (if 100 ≤ cF d ∧ cF d ≤ 65536 then cF d else 15000), .int .i64 (if 1 ≤ cL d ∧ cL d ≤ 512 then cL d else 100), .int .i64 50, .int .u64 10000000000, .int .u64 0, .bool false, .int .i64 100000, .int .i64 1000]) (fun y : Bool => y = decide (1 ≤ cW d ∧ cW d ≤ 512)) (fun y w hy h => ?_) ?_
      · rw [hy]
        refine w_ite (fun c => ?_) fun c => ?_
        · have c := of_decide_eq_true c
          refine w_ld h rfl (w_setTo h n4 [.int .i64 (if 100 ≤ cQ d ∧ cQ d ≤ 65536 then cQ d else 3000), .int .i64 (if 100 ≤ cF d ∧ cF d ≤ 65536 then cF d else 15000), .int .i64 (if 1 ≤ cL d ∧ cL d ≤ 512 then cL d else 100), .int .i64 (if 1 ≤ cW d ∧ cW d ≤ 512 then cW d else 50), .int .u64 10000000000, .int .u64 0, .bool false, .int .i64 100000, .int .i64 1000] rfl rfl (by rw [if_pos c]; rfl) fun w h => ⟨trivial, h.fin⟩)
        · have c := of_decide_eq_false c
          have h := h.blkEq (b := n4) (L' := [.int .i64 (if 100 ≤ cQ d ∧ cQ d ≤ 65536 then cQ d else 3000), .int .i64 (if 100 ≤ cF d ∧ cF d ≤ 65536 then cF d else 15000), .int .i64 (if 1 ≤ cL d ∧ cL d ≤ 512 then cL d else 100), .int .i64 (if 1 ≤ cW d ∧ cW d ≤ 512 then cW d else 50), .int .u64 10000000000, .int .u64 0, .bool false, .int .i64 100000, .int .i64 1000]) (by rw [if_neg c])
          exact ⟨trivial, h.fin⟩
      · refine w_ld h rfl (w_ite (fun c => w_ld h rfl ⟨?_, h.fin⟩) fun c => ⟨?_, h.fin⟩)
        · have c : cW d ≥ 1 := by simpa using c
          show decide (cW d ≤ 512) = _
          rw [decide_eq_decide]; exact ⟨fun x => ⟨c, x⟩, fun x => x.2⟩
        · have c : ¬ cW d ≥ 1 := by simpa using c
          exact (decide_eq_false fun x => c x.1).symm
    rintro - w - h
    refine w_join h (fun _ : Unit => blk n1 (Ks.mk KC d) ^ blk n2 zC ^ blk n4 [.int .i64 (if 100 ≤ cQ d ∧ cQ d ≤ 65536 then cQ d else 3000), .int .i64 (if 100 ≤ cF d ∧ cF d ≤ 65536 then cF d else 15000), .int .i64 (if 1 ≤ cL d ∧ cL d ≤ 512 then cL d else 100), .int .i64 (if 1 ≤ cW d ∧ cW d ≤ 512 then cW d else 50), .int .u64 (if cH d ≤ 4611686018427387904 then cH d else 10000000000), .int .u64 0, .bool false, .int .i64 100000, .int .i64 1000]) (fun _ => True) ?_ ?_
    rotate_left
    · refine w_ld h rfl (w_ite (fun c => ?_) fun c => ?_)
      · have c : cH d ≤ 4611686018427387904 := by simpa using c
        refine w_ld h rfl (w_setTo h n4 [.int .i64 (if 100 ≤ cQ d ∧ cQ d ≤ 65536 then cQ d else 3000), .int .i64 (if 100 ≤ cF d ∧ cF d ≤ 65536 then cF d else 15000), .int .i64 (if 1 ≤ cL d ∧ cL d ≤ 512 then cL d else 100), .int .i64 (if 1 ≤ cW d ∧ cW d ≤ 512 then cW d else 50), .int .u64 (if cH d ≤ 4611686018427387904 then cH d else 10000000000), .int .u64 0, .bool false, .int .i64 100000, .int .i64 1000] rfl rfl (by rw [if_pos c]; rfl) fun w h => ⟨trivial, h.fin⟩)
      · have c : ¬ cH d ≤ 4611686018427387904 := by simpa using c
        have h := h.blkEq (b := n4) (L' := [.int .i64 (if 100 ≤ cQ d ∧ cQ d ≤ 65536 then cQ d else 3000), .int .i64 (if 100 ≤ cF d ∧ cF d ≤ 65536 then cF d else 15000), .int .i64 (if 1 ≤ cL d ∧ cL d ≤ 512 then cL d else 100), .int .i64 (if 1 ≤ cW d ∧ cW d ≤ 512 then cW d else 50), .int .u64 (if cH d ≤ 4611686018427387904 then cH d else 10000000000), .int .u64 0, .bool false, .int .i64 100000, .int .i64 1000]) (by rw [if_neg c])
        exact ⟨trivial, h.fin⟩
    rintro - w - h
    refine w_join h (fun _ : Unit => blk n1 (Ks.mk KC d) ^ blk n2 zC ^ blk n4 [.int .i64 (if 100 ≤ cQ d ∧ cQ d ≤ 65536 then cQ d else 3000), .int .i64 (if 100 ≤ cF d ∧ cF d ≤ 65536 then cF d else 15000), .int .i64 (if 1 ≤ cL d ∧ cL d ≤ 512 then cL d else 100), .int .i64 (if 1 ≤ cW d ∧ cW d ≤ 512 then cW d else 50), .int .u64 (if cH d ≤ 4611686018427387904 then cH d else 10000000000), .int .u64 0, .bool false, .int .i64 (if 1 ≤ cCap d ∧ cCap d ≤ 1073741824 then cCap d else 100000), .int .i64 1000]) (fun _ => True) ?_ ?_
    rotate_left
    · refine w_join h (fun _ : Bool => blk n1 (Ks.mk KC d) ^ blk n2 zC ^ blk n4 [.int .i64 (if 100 ≤ cQ d ∧ cQ d ≤ 65536 then cQ d else 3000), .int .i64 (if 100 ≤ cF d ∧ cF d ≤ 65536 then cF d else 15000), .int .i64 (if 1 ≤ cL d ∧ cL d ≤ 512 then cL d else 100), .int .i64 (if 1 ≤ cW d ∧ cW d ≤ 512 then cW d else 50), .int .u64 (if cH d ≤ 4611686018427387904 then cH d else 10000000000), .int .u64 0, .bool false, .int .i64 100000, .int .i64 1000]) (fun y : Bool => y = decide (1 ≤ cCap d ∧ cCap d ≤ 1073741824)) (fun y w hy h => ?_) ?_
      · rw [hy]
        refine w_ite (fun c => ?_) fun c => ?_
        · have c := of_decide_eq_true c
          refine w_ld h rfl (w_setTo h n4 [.int .i64 (if 100 ≤ cQ d ∧ cQ d ≤ 65536 then cQ d else 3000), .int .i64 (if 100 ≤ cF d ∧ cF d ≤ 65536 then cF d else 15000), .int .i64 (if 1 ≤ cL d ∧ cL d ≤ 512 then cL d else 100), .int .i64 (if 1 ≤ cW d ∧ cW d ≤ 512 then cW d else 50), .int .u64 (if cH d ≤ 4611686018427387904 then cH d else 10000000000), .int .u64 0, .bool false, .int .i64 (if 1 ≤ cCap d ∧ cCap d ≤ 1073741824 then cCap d else 100000), .int .i64 1000] rfl rfl (by rw [if_pos c]; rfl) fun w h => ⟨trivial, h.fin⟩)
        · have c := of_decide_eq_false c
          have h := h.blkEq (b := n4) (L' := [.int .i64 (if 100 ≤ cQ d ∧ cQ d ≤ 65536 then cQ d else 3000), .int .i64 (if 100 ≤ cF d ∧ cF d ≤ 65536 then cF d else 15000), .int .i64 (if 1 ≤ cL d ∧ cL d ≤ 512 then cL d else 100), .int .i64 (if 1 ≤ cW d ∧ cW d ≤ 512 then cW d else 50), .int .u64 (if cH d ≤ 4611686018427387904 then cH d else 10000000000), .int .u64 0, .bool false, .int .i64 (if 1 ≤ cCap d ∧ cCap d ≤ 1073741824 then cCap d else 100000), .int .i64 1000]) (by rw [if_neg c])
          exact ⟨trivial, h.fin⟩
      · refine w_ld h rfl (w_ite (fun c => w_ld h rfl ⟨?_, h.fin⟩) fun c => ⟨?_, h.fin⟩)
        · have c : cCap d ≥ 1 := by simpa using c
          show decide (cCap d ≤ 1073741824) = _
          rw [decide_eq_decide]; exact ⟨fun x => ⟨c, x⟩, fun x => x.2⟩
        · have c : ¬ cCap d ≥ 1 := by simpa using c
          exact (decide_eq_false fun x => c x.1).symm
    rintro - w - h
    refine w_join h (fun _ : Unit => blk n1 (Ks.mk KC d) ^ blk n2 zC ^ blk n4 [.int .i64 (if 100 ≤ cQ d ∧ cQ d ≤ 65536 then cQ d else 3000), .int .i64 (if 100 ≤ cF d ∧ cF d ≤ 65536 then cF d else 15000), .int .i64 (if 1 ≤ cL d ∧ cL d ≤ 512 then cL d else 100), .int .i64 (if 1 ≤ cW d ∧ cW d ≤ 512 then cW d else 50), .int .u64 (if cH d ≤ 4611686018427387904 then cH d else 10000000000), .int .u64 0, .bool false, .int .i64 (if 1 ≤ cCap d ∧ cCap d ≤ 1073741824 then cCap d else 100000), .int .i64 (if 100 ≤ cMss d ∧ cMss d ≤ 9000 then cMss d else 1000)]) (fun _ => True) ?_ ?_
    rotate_left
    · refine w_join h (fun _ : Bool => blk n1 (Ks.mk KC d) ^ blk n2 zC ^ blk n4 [.int .i64 (if 100 ≤ cQ d ∧ cQ d ≤ 65536 then cQ d else 3000), .int .i64 (if 100 ≤ cF d ∧ cF d ≤ 65536 then cF d else 15000), .int .i64 (if 1 ≤ cL d ∧ cL d ≤ 512 then cL d else 100), .int .i64 (if 1 ≤ cW d ∧ cW d ≤ 512 then cW d else 50), .int .u64 (if cH d ≤ 4611686018427387904 then cH d else 10000000000), .int .u64 0, .bool false, .int .i64 (if 1 ≤ cCap d ∧ cCap d ≤ 1073741824 then cCap d else 100000), .int .i64 1000]) (fun y : Bool => y = decide (100 ≤ cMss d ∧ cMss d ≤ 9000)) (fun y w hy h => ?_) ?_
      · rw [hy]
        refine w_ite (fun c => ?_) fun c => ?_
        · have c := of_decide_eq_true c
          refine w_ld h rfl (w_setTo h n4 [.int .i64 (if 100 ≤ cQ d ∧ cQ d ≤ 65536 then cQ d else 3000), .int .i64 (if 100 ≤ cF d ∧ cF d ≤ 65536 then cF d else 15000), .int .i64 (if 1 ≤ cL d ∧ cL d ≤ 512 then cL d else 100), .int .i64 (if 1 ≤ cW d ∧ cW d ≤ 512 then cW d else 50), .int .u64 (if cH d ≤ 4611686018427387904 then cH d else 10000000000), .int .u64 0, .bool false, .int .i64 (if 1 ≤ cCap d ∧ cCap d ≤ 1073741824 then cCap d else 100000), .int .i64 (if 100 ≤ cMss d ∧ cMss d ≤ 9000 then cMss d else 1000)] rfl rfl (by rw [if_pos c]; rfl) fun w h => ⟨trivial, h.fin⟩)
        · have c := of_decide_eq_false c
          have h := h.blkEq (b := n4) (L' := [.int .i64 (if 100 ≤ cQ d ∧ cQ d ≤ 65536 then cQ d else 3000), .int .i64 (if 100 ≤ cF d ∧ cF d ≤ 65536 then cF d else 15000), .int .i64 (if 1 ≤ cL d ∧ cL d ≤ 512 then cL d else 100), .int .i64 (if 1 ≤ cW d ∧ cW d ≤ 512 then cW d else 50), .int .u64 (if cH d ≤ 4611686018427387904 then cH d else 10000000000), .int .u64 0, .bool false, .int .i64 (if 1 ≤ cCap d ∧ cCap d ≤ 1073741824 then cCap d else 100000), .int .i64 (if 100 ≤ cMss d ∧ cMss d ≤ 9000 then cMss d else 1000)]) (by rw [if_neg c])
          exact ⟨trivial, h.fin⟩
      · refine w_ld h rfl (w_ite (fun c => w_ld h rfl ⟨?_, h.fin⟩) fun c => ⟨?_, h.fin⟩)
        · have c : cMss d ≥ 100 := by simpa using c
          show decide (cMss d ≤ 9000) = _
          rw [decide_eq_decide]; exact ⟨fun x => ⟨c, x⟩, fun x => x.2⟩
        · have c : ¬ cMss d ≥ 100 := by simpa using c
          exact (decide_eq_false fun x => c x.1).symm
    rintro - w - h
    refine w_drw h fun w h => w_ld h rfl (w_ld h rfl (w_setTo h n4 [.int .i64 (if 100 ≤ cQ d ∧ cQ d ≤ 65536 then cQ d else 3000), .int .i64 (if 100 ≤ cF d ∧ cF d ≤ 65536 then cF d else 15000), .int .i64 (if 1 ≤ cL d ∧ cL d ≤ 512 then cL d else 100), .int .i64 (if 1 ≤ cW d ∧ cW d ≤ 512 then cW d else 50), .int .u64 (if cH d ≤ 4611686018427387904 then cH d else 10000000000), .int .u64 (cR d), .bool false, .int .i64 (if 1 ≤ cCap d ∧ cCap d ≤ 1073741824 then cCap d else 100000), .int .i64 (if 100 ≤ cMss d ∧ cMss d ≤ 9000 then cMss d else 1000)] rfl rfl rfl fun w h => w_chk h rfl (w_setTo h n4 [.int .i64 (if 100 ≤ cQ d ∧ cQ d ≤ 65536 then cQ d else 3000), .int .i64 (if 100 ≤ cF d ∧ cF d ≤ 65536 then cF d else 15000), .int .i64 (if 1 ≤ cL d ∧ cL d ≤ 512 then cL d else 100), .int .i64 (if 1 ≤ cW d ∧ cW d ≤ 512 then cW d else 50), .int .u64 (if cH d ≤ 4611686018427387904 then cH d else 10000000000), .int .u64 (cR d), .bool (cD d), .int .i64 (if 1 ≤ cCap d ∧ cCap d ≤ 1073741824 then cCap d else 100000), .int .i64 (if 100 ≤ cMss d ∧ cMss d ≤ 9000 then cMss d else 1000)] rfl rfl rfl fun w h => ?_)))
    refine w_ldAll (b := n4) (x := configF d) h rfl (w_setAll h (by rfl) fun w h => w_ldAll (b := n2) (x := configF d) h rfl ?_)
    exact Own.retP rfl h.emp'
theorem config_may (d : Cf) : may (configF d) = true := by
  unfold may configF
  simp only [Bool.and_eq_true, decide_eq_true_eq]
  refine ⟨?_, ?_, ?_, ?_, ?_, ?_, ?_⟩ <;> dsimp only [cQ, cF, cL, cW, cH, cCap, cMss] <;> split <;> omega
theorem config_ok {d : Cf} (h0 : 0 ≤ cH d) (hr : U (cR d)) : OkC (configF d) := may_ok (config_may d) (by unfold configF; dsimp only [cH]; split <;> (try assumption); omega) hr
theorem okC_of {d : Cf} (h : ∀ k n, Lf.int k n ∈ Ks.mk KC d → (Lit.int k n).wf = true) : 0 ≤ cH d ∧ U (cR d) :=
  ⟨(Wf.u (h .u64 (cH d) (List.mem_of_getElem? (i := 4) rfl))).1, Wf.u (h .u64 (cR d) (List.mem_of_getElem? (i := 5) rfl))⟩
end Conf

namespace Delays
open Arith ArithC
def delayI (size rate : Int) : Int := if size < 1 ∨ rate = 18446744073709551615 then 0 else if 1000000000 < mdI size 1000000000 rate then 1000000000 else mdI size 1000000000 rate
theorem delay_tri (n r : Int) (hn : n < 9223372036854775808) (hr : U r) : Tri Tryz.prog N_delay_Of [.lf (.int .i64 n), .lf (.int .u64 r)] [.lf (.int .u64)] emp (fun x => pur (x = delayI n r) emp) :=
  tri_0 (call_delay_Of n r) fun w0 S R h => by
    unfold W_delay_Of delayI
    refine w_ite (fun c => ?_) fun c => ?_
    · have c : n < 1 ∨ r = 18446744073709551615 := by simpa using c
      rw [if_pos c]; exact Own.retP rfl h
    have c : ¬ (n < 1 ∨ r = 18446744073709551615) := by simpa using c
    rw [if_neg c, wu (n := n) (by omega) (by omega)]
    refine w_call (md_tri n 1000000000 r ⟨by omega, by omega⟩ (U_lit _) hr) h fun x w h => ?_
    obtain ⟨hx, h⟩ := h.purP; rw [hx]
    exact Own.retP rfl h.emp'
theorem rdelay_tri (n r : Int) (hn : n < 9223372036854775808) (hr : U r) : Tri Tryz.prog N_canterref01_Delay [.lf (.int .i64 n), .lf (.int .u64 r)] [.lf (.int .u64)] emp (fun x => pur (x = delayI n r) emp) :=
  tri_0 (call_canterref01_Delay n r) fun w0 S R h => by
    unfold W_canterref01_Delay delayI
    refine w_ite (fun c => ?_) fun c => ?_
    · have c : n < 1 ∨ r = 18446744073709551615 := by simpa using c
      rw [if_pos c]; exact Own.retP rfl h
    have c : ¬ (n < 1 ∨ r = 18446744073709551615) := by simpa using c
    rw [if_neg c, wu (n := n) (by omega) (by omega)]
    refine w_call (rmd_tri n 1000000000 r ⟨by omega, by omega⟩ (U_lit _) hr) h fun x w h => ?_
    obtain ⟨hx, h⟩ := h.purP; rw [hx]
    exact Own.retP rfl h.emp'
theorem U_delay {n r : Int} (hn : n < 9223372036854775808) (hr : U r) : U (delayI n r) := by
  unfold delayI
  split
  · exact U_lit 0
  · rename_i c
    have h := U_md (a := n) (b := 1000000000) (c := r) ⟨by omega, by omega⟩ (U_lit _) hr
    split
    · exact U_lit _
    · exact h
end Delays


end Go.X
