/- Contracts and plain facts: FqL. -/
import Derived.Test.YtjahkildlilabaaBPlain
import Derived.Test.YtjahkildlilabaaBArith
import Derived.Test.YtjahkildlilabaaBArithC
import Derived.Test.YtjahkildlilabaaBLists
import Derived.Test.YtjahkildlilabaaBTreeM
import Derived.Test.YtjahkildlilabaaBTreeN
import Derived.Test.YtjahkildlilabaaBTreeA
import Derived.Test.YtjahkildlilabaaBTreeB
import Derived.Test.YtjahkildlilabaaBTreeC
import Derived.Test.YtjahkildlilabaaBTreeD
import Derived.Test.YtjahkildlilabaaBTreeE
import Derived.Test.YtjahkildlilabaaBTreeF
import Derived.Test.YtjahkildlilabaaBFqM
import Derived.Test.YtjahkildlilabaaBFqC
import Derived.Test.YtjahkildlilabaaBFqD
import Derived.Test.YtjahkildlilabaaBFqE
import Derived.Test.YtjahkildlilabaaBFqG
import Derived.Test.YtjahkildlilabaaBFqH
import Derived.Test.YtjahkildlilabaaBFqJ
import Derived.Test.YtjahkildlilabaaBFqK
import Derived.Test.YtjahkildlilabaaXw
import Derived.Test.YtjahkildlilabaaK
import Derived.Test.YtjahkildlilabaaF0
import Derived.Test.YtjahkildlilabaaF1
set_option linter.unusedVariables false
set_option linter.unusedSimpArgs false
set_option linter.unusedSectionVars false
namespace Go.X
open Go.Proofs
namespace FqL
open Arith ArithC Lists _root_.Go.X.Tree TreeC TreeD TreeE TreeF FqM FqC FqD FqE FqG FqH FqJ FqK
abbrev sg2 (k : Nat) : Sg := (((k : Nat) : Int).tmod 2, 0, 1, 0, false)
/-- So many segments, of the sockets 0 and 1 by turns, at 7. -/
def turnN (c : Cf) : Nat → Qm
  | 0 => newF c
  | k + 1 => (enqF (turnN c k) (sg2 k) 7).2
theorem u7 : U 7 := U_lit 7
theorem turn_ok {c : Cf} (h : OkC c) : ∀ k, OkQ (turnN c k)
  | 0 => OkQ.new h
  | k + 1 => (turn_ok h k).enq ⟨u0, u0⟩ u7
theorem tm2 (k : Nat) : ((k : Nat) : Int).tmod 2 = ((k % 2 : Nat) : Int) := by
  rw [Int.tmod_eq_emod_of_nonneg (by omega)]; omega
theorem sg2_k (k : Nat) : 0 ≤ sK (sg2 k) ∧ sK (sg2 k) ≤ 7 := by
  show 0 ≤ ((k : Nat) : Int).tmod 2 ∧ ((k : Nat) : Int).tmod 2 ≤ 7
  rw [tm2]; omega
theorem sg2_i (k : Nat) : (sK (sg2 k)).toNat = k % 2 := by
  show (((k : Nat) : Int).tmod 2).toNat = _
  rw [tm2]; omega
theorem ifmin (a b : Int) : (if a < b then a else b) = min a b := by split <;> omega
def fateL (c : Cf) (k : Nat) : Int := if min (2 * cW c) (k : Int) ≥ cL c then 2 else if (k / 2 : Int) ≥ cW c then 3 else 0
theorem no_far {c : Cf} (h : OkC c) {now : Int} (hn : 0 ≤ now) : ¬ ((0 : Int) > addI now (cH c) ∧ cD c = true) := fun x => by
  have := h.h
  have x1 := x.1
  unfold addI at x1
  split at x1 <;> omega
theorem turn_obs {c : Cf} (h : OkC c) : ∀ k : Nat, ((turnN c k).c = c ∧ (turnN c k).n = min (k : Int) (min (cL c) (2 * cW c)) ∧ cnt ((turnN c k).fl 0) = ((turnN c k).n + 1) / 2 ∧ cnt ((turnN c k).fl 1) = (turnN c k).n / 2) ∧ fate4 (turnN c k) (sg2 k) 7 = fateL c k
  | 0 => by
    have h1 := h.l
    have h2 := h.w
    refine ⟨⟨rfl, by show (0 : Int) = _; omega, rfl, rfl⟩, ?_⟩
    unfold fate4 fateL
    rw [if_neg (by show ¬ (0 : Int) ≥ cL c; omega), if_neg (by show ¬ (0 : Int) ≥ cW c; omega), if_neg (show ¬ (sSt (sg2 0) > addI 7 (cH (turnN c 0).c) ∧ cD (turnN c 0).c = true) from no_far h (by decide)), if_neg (by omega), if_neg (by omega)]
  | k + 1 => by
    obtain ⟨⟨a1, a2, a3, a4⟩, a5⟩ := turn_obs h k
    have h1 := h.l
    have h2 := h.w
    obtain ⟨_, b1, b2, b3⟩ := enq_obs (turn_ok h k) (s := sg2 k) (now := 7) (sg2_k k) ⟨by show (1:Int) ≤ 1; decide, by show (1:Int) ≤ 65536; decide⟩ (by decide)
    rw [a5, sg2_i] at b3
    rw [a5] at b2
    have c0 := b3 0
    have c1 := b3 1
    rw [a3] at c0
    rw [a4] at c1
    have key : (turnN c (k + 1)).c = c ∧ (turnN c (k + 1)).n = min ((k + 1 : Nat) : Int) (min (cL c) (2 * cW c)) ∧ cnt ((turnN c (k + 1)).fl 0) = ((turnN c (k + 1)).n + 1) / 2 ∧ cnt ((turnN c (k + 1)).fl 1) = (turnN c (k + 1)).n / 2 := by
      show (enqF (turnN c k) (sg2 k) 7).2.c = c ∧ (enqF (turnN c k) (sg2 k) 7).2.n = _ ∧ cnt ((enqF (turnN c k) (sg2 k) 7).2.fl 0) = ((enqF (turnN c k) (sg2 k) 7).2.n + 1) / 2 ∧ cnt ((enqF (turnN c k) (sg2 k) 7).2.fl 1) = (enqF (turnN c k) (sg2 k) 7).2.n / 2
      rw [b1, b2, c0, c1, a1]
      refine ⟨rfl, ?_⟩
      have e : fateL c k = 0 ↔ (k : Int) < cL c ∧ (k : Int) < 2 * cW c := by
        unfold fateL
        by_cases x1 : min (2 * cW c) (k : Int) ≥ cL c
        · rw [if_pos x1]; omega
        · rw [if_neg x1]
          by_cases x2 : (k / 2 : Int) ≥ cW c
          · rw [if_pos x2]; omega
          · rw [if_neg x2]; omega
      by_cases hf : fateL c k = 0
      · have hk := e.1 hf
        rw [if_pos hf, a2]
        by_cases hp : k % 2 = 0
        · rw [if_pos ⟨hf, hp.symm⟩, if_neg (fun x => by omega)]
          omega
        · rw [if_neg (fun x => by omega), if_pos ⟨hf, by omega⟩]
          omega
      · have hk := fun x => hf (e.2 x)
        rw [if_neg hf, if_neg (fun x => hf x.1), if_neg (fun x => hf x.1), a2]
        refine ⟨?_, by omega, by omega⟩
        by_cases x : (k : Int) < cL c
        · have : ¬ (k : Int) < 2 * cW c := fun y => hk ⟨x, y⟩
          omega
        · omega
    refine ⟨key, ?_⟩
    obtain ⟨k1, k2, k3, k4⟩ := key
    have kc : cnt ((turnN c (k + 1)).fl ((k + 1) % 2)) = if (k + 1) % 2 = 0 then ((turnN c (k + 1)).n + 1) / 2 else (turnN c (k + 1)).n / 2 := by
      split
      · rename_i e; rw [e]; exact k3
      · rename_i e; rw [show (k + 1) % 2 = 1 by omega]; exact k4
    have hfar : ¬ (sSt (sg2 (k + 1)) > addI 7 (cH c) ∧ cD c = true) := no_far h (now := 7) (by decide)
    unfold fate4 fateL
    rw [sg2_i, kc, k1, k2, if_neg hfar]
    by_cases x : min (2 * cW c) ((k + 1 : Nat) : Int) ≥ cL c
    · rw [if_pos (by omega), if_pos x]
    · rw [if_neg (by omega), if_neg x]
      by_cases hp : (k + 1) % 2 = 0
      · rw [if_pos hp]
        by_cases y : (((k + 1 : Nat) : Int) / 2) ≥ cW c
        · rw [if_pos (by omega), if_pos y]
        · rw [if_neg (by omega), if_neg y]
      · rw [if_neg hp]
        by_cases y : (((k + 1 : Nat) : Int) / 2) ≥ cW c
        · rw [if_pos (by omega), if_pos y]
        · rw [if_neg (by omega), if_neg y]
theorem limits_tri (d o a : Int) (b0 : Bool) (ha : 0 ≤ a) : Tri Try.prog N_canterlaw20_FqLimits [.lf (.int .i64 d), .lf (.int .i64 o), .lf (.int .u64 a), .lf (.bool b0)] [.lf .bool] emp (fun r => pur (r = true) emp) :=
  tri_0 (call_canterlaw20_FqLimits d o a b0) fun w0 S R h => by
    unfold W_canterlaw20_FqLimits
    have hd := modr d (m := 30) (by decide) (by decide)
    have ho := modr o (m := 30) (by decide) (by decide)
    have hh : 0 ≤ a.tmod 1099511627776 ∧ a.tmod 1099511627776 < 1099511627776 := ⟨Int.tmod_nonneg _ ha, Int.tmod_lt_of_pos _ (by decide)⟩
    have eL : IntKind.i64.wrap (1 + IntKind.i64.wrap ((IntKind.u64.wrap d).tmod 30)) = 1 + IntKind.i64.wrap ((IntKind.u64.wrap d).tmod 30) := wi (by omega) (by omega)
    have eW : IntKind.i64.wrap (1 + IntKind.i64.wrap ((IntKind.u64.wrap o).tmod 30)) = 1 + IntKind.i64.wrap ((IntKind.u64.wrap o).tmod 30) := wi (by omega) (by omega)
    rw [eL, eW]
    obtain ⟨l, hle⟩ : ∃ l, l = 1 + IntKind.i64.wrap ((IntKind.u64.wrap d).tmod 30) := ⟨_, rfl⟩
    obtain ⟨x, hxe⟩ : ∃ x, x = 1 + IntKind.i64.wrap ((IntKind.u64.wrap o).tmod 30) := ⟨_, rfl⟩
    obtain ⟨z, hze⟩ : ∃ z, z = a.tmod 1099511627776 := ⟨_, rfl⟩
    rw [← hle, ← hxe, ← hze]
    rw [← hze] at hh
    have hl : 1 ≤ l ∧ l ≤ 30 := by omega
    have hx : 1 ≤ x ∧ x ≤ 30 := by omega
    clear hle hxe hze eL eW hd ho
    obtain ⟨c, hc⟩ : ∃ c : Cf, c = (3000, 15000, l, x, z, 0, b0, 100000, 1000) := ⟨_, rfl⟩
    have hcl : cL c = l := by rw [hc]
    have hcw : cW c = x := by rw [hc]
    have hch : cH c = z := by rw [hc]
    have hcd : cD c = b0 := by rw [hc]
    have hmay : may c = true := by
      rw [hc]
      unfold may
      simp only [Bool.and_eq_true, decide_eq_true_eq]
      dsimp only [cQ, cF, cL, cW, cH, cCap, cMss]
      omega
    have hok : OkC c := may_ok hmay (by rw [hch]; omega) (by rw [hc]; exact u0)
    refine w_call plain_tri (h.le (star_emp _)) fun r w h => ?_
    obtain ⟨hr, h⟩ := h.purP; rw [hr]
    refine w_new h fun n2 w h => w_setAll h (by rfl) fun w h => ?_
    refine w_setTo h n2 [.int .i64 3000, .int .i64 15000, .int .i64 l, .int .i64 50, .int .u64 10000000000, .int .u64 0, .bool false, .int .i64 100000, .int .i64 1000] rfl rfl rfl fun w h => ?_
    refine w_setTo h n2 [.int .i64 3000, .int .i64 15000, .int .i64 l, .int .i64 x, .int .u64 10000000000, .int .u64 0, .bool false, .int .i64 100000, .int .i64 1000] rfl rfl rfl fun w h => ?_
    refine w_setTo h n2 [.int .i64 3000, .int .i64 15000, .int .i64 l, .int .i64 x, .int .u64 z, .int .u64 0, .bool false, .int .i64 100000, .int .i64 1000] rfl rfl rfl fun w h => ?_
    refine w_setTo h n2 (Ks.mk KC c) rfl rfl (by rw [hc]; rfl) fun w h => ?_
    refine w_ldAll (b := n2) (x := c) h rfl (w_call (new_tri c) h fun r w h => ?_)
    obtain ⟨b, h⟩ := h.exP
    obtain ⟨hr, h⟩ := h.purP
    rw [if_pos hmay] at hr h
    rw [hr]
    refine w_call awake_tri h fun r w h => ?_
    obtain ⟨hr, h⟩ := h.purP; rw [hr]
    refine w_ite (fun c => (by simp at c)) fun _ => ?_
    rw [show newF c = turnN c (0 : Int).toNat from rfl] at h
    have h : Own w0 S R w (blk n2 (Ks.mk KC c) ^ que b (turnN c (0 : Int).toNat)) := h.fin
    refine w_loop (fun y : Int => blk n2 (Ks.mk KC c) ^ que b (turnN c y.toNat)) (fun y : Int => 0 ≤ y ∧ y ≤ 40) (fun y : Int => (40 - y).toNat) h ⟨by decide, by decide⟩ ?_
    rintro (y : Int) w hy h
    have hw : IntKind.i64.wrap (y + 1) = y + 1 := wi (by omega) (by omega)
    have hty := turn_ok hok y.toNat
    refine w_ite (fun c1 => ?_) fun c1 => ?_
    · have c1 : y < 40 := by simpa using c1
      have ey : ((y.toNat : Nat) : Int) = y := by omega
      have es : sg2 y.toNat = (y.tmod 2, 0, 1, 0, false) := by rw [sg2, ey]
      refine w_call (enq_tri b (turnN c y.toNat) hty (y.tmod 2, 0, 1, 0, false) 7 ⟨u0, u0⟩ u7) h fun r w h => ?_
      obtain ⟨hr, h⟩ := h.purP; rw [hr]
      rw [← es] at h ⊢
      obtain ⟨g1, _⟩ := enq_obs hty (s := sg2 y.toNat) (now := 7) (sg2_k _) ⟨by show (1:Int) ≤ 1; decide, by show (1:Int) ≤ 65536; decide⟩ (by decide)
      rw [(turn_obs hok y.toNat).2] at g1
      rw [g1]
      rw [show (enqF (turnN c y.toNat) (sg2 y.toNat) 7).2 = turnN c (y.toNat + 1) from rfl] at h
      have e : (y + 1).toNat = y.toNat + 1 := by omega
      refine w_join h (fun _ => blk n2 (Ks.mk KC c) ^ que b (turnN c (y.toNat + 1))) (fun z : Int => z = fateL c y.toNat) (fun (z : Int) w hz h => ?_) ?_
      · rw [hz]
        refine w_ite (fun c2 => (by simp at c2)) fun _ => ?_
        rw [hw]
        dsimp only
        rw [e]
        exact ⟨⟨by omega, h.fin⟩, by omega⟩
      · have h2w : IntKind.i64.wrap (2 * cW c) = 2 * cW c := wi (by omega) (by omega)
        have hyd : y.tdiv 2 = y / 2 := Int.tdiv_eq_ediv_of_nonneg hy.1
        have h2d : IntKind.i64.wrap (y.tdiv 2) = y / 2 := by rw [hyd]; exact wi (by omega) (by omega)
        have h : Own w0 S R w (blk n2 (Ks.mk KC c) ^ que b (turnN c (y.toNat + 1))) := h.fin
        refine w_ld h rfl (w_ld h rfl (w_ite (fun c2 => ?_) fun c2 => ?_))
        · refine ⟨?_, h⟩
          have c2 := of_decide_eq_true c2
          have c2 : (if IntKind.i64.wrap (2 * cW c) < y then IntKind.i64.wrap (2 * cW c) else y) ≥ cL c := c2
          rw [h2w, ifmin] at c2
          unfold fateL
          rw [ey, if_pos c2]
        · have c2 := of_decide_eq_false c2
          have c2 : ¬ (if IntKind.i64.wrap (2 * cW c) < y then IntKind.i64.wrap (2 * cW c) else y) ≥ cL c := c2
          rw [h2w, ifmin] at c2
          refine w_ld h rfl (w_ite (fun c3 => ?_) fun c3 => ?_)
          · have c3 := of_decide_eq_true c3
            have c3 : IntKind.i64.wrap (y.tdiv 2) ≥ cW c := c3
            rw [h2d] at c3
            refine ⟨?_, h⟩
            unfold fateL
            rw [ey, if_neg c2, if_pos c3]
          · have c3 := of_decide_eq_false c3
            have c3 : ¬ IntKind.i64.wrap (y.tdiv 2) ≥ cW c := c3
            rw [h2d] at c3
            refine ⟨?_, h⟩
            unfold fateL
            rw [ey, if_neg c2, if_neg c3]
    · have c1 : ¬ y < 40 := by simpa using c1
      refine w_ldAll (b := n2) (x := c) h rfl (w_call (new_tri c) h fun r w h => ?_)
      obtain ⟨b2, h⟩ := h.exP
      obtain ⟨hr, h⟩ := h.purP
      rw [if_pos hmay] at hr h
      rw [hr]
      have h8 : IntKind.u64.wrap (8 + z) = 8 + z := wu (by omega) (by omega)
      have h7 : IntKind.u64.wrap (7 + z) = 7 + z := wu (by omega) (by omega)
      have hv := OkQ.new hok
      refine w_ld h rfl ?_
      have hz2 : IntKind.u64.wrap (8 + cH c) = 8 + z := by rw [hch]; exact h8
      refine w_call (enq_tri b2 (newF c) hv (0, 0, 1, IntKind.u64.wrap (8 + cH c), false) 7 ⟨u0, by rw [hz2]; exact ⟨by show 0 ≤ 8 + z; omega, by show 8 + z < _; omega⟩⟩ u7) h fun r w h => ?_
      obtain ⟨hr, h⟩ := h.purP; rw [hr]
      rw [hz2] at h ⊢
      have hokE := hv.enq (s := (0, 0, 1, 8 + z, false)) (now := 7) ⟨u0, ⟨by show 0 ≤ 8 + z; omega, by show 8 + z < _; omega⟩⟩ u7
      have hadd : addI 7 (cH c) = 7 + z := by rw [hch]; unfold addI; split <;> omega
      refine w_call (flow_tri b2 (enqF (newF c) (0, 0, 1, 8 + z, false) 7).2 hokE 0) h fun r w h => ?_
      obtain ⟨s, h⟩ := h.exP
      obtain ⟨hr, h⟩ := h.purP; rw [hr]
      refine w_new h fun n19 w h => w_setAll h (by rfl) fun w h => ?_
      cases b0 with
      | true =>
        have hfar : (8 + z : Int) > addI 7 (cH c) ∧ cD c = true := ⟨by rw [hadd]; omega, hcd⟩
        have hf4 : fate4 (newF c) (0, 0, 1, 8 + z, false) 7 = 4 := by
          unfold fate4
          rw [if_neg (by show ¬ (0 : Int) ≥ cL c; omega), if_neg (by show ¬ (0 : Int) ≥ cW c; omega)]
          exact if_pos hfar
        have he : enqF (newF c) (0, 0, 1, 8 + z, false) 7 = ((4, 0), newF c) := by
          unfold enqF
          rw [if_neg (show ¬¬((0:Int) ≤ 0 ∧ (0:Int) ≤ 7) by decide), if_neg (show ¬¬((1:Int) ≤ 1 ∧ (1:Int) ≤ 65536) by decide), coll_same hv (by decide), fate_eq hv, hf4]
          rfl
        rw [he] at h ⊢
        refine w_ite (fun _ => ?_) fun c => (by cases c)
        have hs : seenF (newF c) 0 s = (noF, false) := by unfold seenF hasF; rfl
        rw [hs]
        refine w_ite (fun _ => ?_) fun c => (by simp at c)
        refine w_call (len_tri b2 (newF c)) h fun r w h => ?_
        obtain ⟨hr, h⟩ := h.purP; rw [hr]
        exact Own.retP rfl h.emp'
      | false =>
        have he := enq_new hok (s := (0, 0, 1, 8 + z, false)) (now := 7) (show (0:Int) ≤ 0 ∧ (0:Int) ≤ 7 by decide) (show (1:Int) ≤ 1 ∧ (1:Int) ≤ 65536 by decide) (by decide) (fun x => by rw [hcd] at x; cases x.2)
        rw [he] at h ⊢
        refine w_ite (fun c => (by cases c)) fun _ => w_drw h fun w h => ?_
        have hfl := one_fl c (sK (0, 0, 1, 8 + z, false)).toNat ⟨cF c, 0, 0, [drawn (newF c) (0, 0, 1, 8 + z, false) 7]⟩ ([sK (0, 0, 1, 8 + z, false)], []) []
        have hfl : (one c (sK (0, 0, 1, 8 + z, false)).toNat ⟨cF c, 0, 0, [drawn (newF c) (0, 0, 1, 8 + z, false) 7]⟩ ([sK (0, 0, 1, 8 + z, false)], []) []).fl (0 : Int).toNat = some ⟨cF c, 0, 0, [drawn (newF c) (0, 0, 1, 8 + z, false) 7]⟩ := hfl
        have hhas : hasF (one c (sK (0, 0, 1, 8 + z, false)).toNat ⟨cF c, 0, 0, [drawn (newF c) (0, 0, 1, 8 + z, false) 7]⟩ ([sK (0, 0, 1, 8 + z, false)], []) []) 0 = true := by unfold hasF; rw [hfl]; rfl
        have hsg : sgF (one c (sK (0, 0, 1, 8 + z, false)).toNat ⟨cF c, 0, 0, [drawn (newF c) (0, 0, 1, 8 + z, false) 7]⟩ ([sK (0, 0, 1, 8 + z, false)], []) []) 0 = [drawn (newF c) (0, 0, 1, 8 + z, false) 7] := by unfold sgF; rw [if_pos hhas, hfl]
        have hdr : sSt (drawn (newF c) (0, 0, 1, 8 + z, false) 7) = 7 + z := by
          show (if addI 7 (cH c) < 8 + z then addI 7 (cH c) else 8 + z) = 7 + z
          rw [hadd, if_pos (by omega)]
        have hse : (seenF (one c (sK (0, 0, 1, 8 + z, false)).toNat ⟨cF c, 0, 0, [drawn (newF c) (0, 0, 1, 8 + z, false) 7]⟩ ([sK (0, 0, 1, 8 + z, false)], []) []) 0 s).2 = true ∧ (seenF (one c (sK (0, 0, 1, 8 + z, false)).toNat ⟨cF c, 0, 0, [drawn (newF c) (0, 0, 1, 8 + z, false) 7]⟩ ([sK (0, 0, 1, 8 + z, false)], []) []) 0 s).1.2.2.2.2.2 = s := by unfold seenF; rw [if_pos hhas, hfl]; exact ⟨rfl, rfl⟩
        rw [hsg] at h
        have hlen := (h.rd (s := s)).2
        refine w_ite (fun _ => ?_) fun c => (by simp at c)
        refine w_ite (fun _ => ?_) fun c => (by rw [hse.1] at c; cases c)
        refine w_ld h rfl ?_
        rw [hse.2]
        refine w_ite (fun _ => ?_) fun c => (by rw [hlen] at c; simp at c)
        refine w_ld h rfl (w_ld h rfl ?_)
        rw [hse.2]
        refine w_idx (s := s) h (by decide) (by simp) ?_
        refine w_ldA h s 0 3 (drawn (newF c) (0, 0, 1, 8 + z, false) 7) rfl rfl (by decide) rfl ?_
        refine Own.retP ?_ h.emp'
        show (sSt (drawn (newF c) (0, 0, 1, 8 + z, false) 7) == IntKind.u64.wrap (7 + cH c)) = true
        rw [hdr, hch, h7]; simp
end FqL

end Go.X
