/- Contracts and plain facts: FqP. -/
import Derived.Test.YtjahkildlilabaaBPlain
import Derived.Test.YtjahkildlilabaaBArith
import Derived.Test.YtjahkildlilabaaBArithC
import Derived.Test.YtjahkildlilabaaBLists
import Derived.Test.YtjahkildlilabaaBTreeM
import Derived.Test.YtjahkildlilabaaBTreeN
import Derived.Test.YtjahkildlilabaaBTreeA
import Derived.Test.YtjahkildlilabaaBTreeB
import Derived.Test.YtjahkildlilabaaBTreeC
import Derived.Test.YtjahkildlilabaaBTreeD
import Derived.Test.YtjahkildlilabaaBTreeE
import Derived.Test.YtjahkildlilabaaBTreeF
import Derived.Test.YtjahkildlilabaaBFqM
import Derived.Test.YtjahkildlilabaaBFqC
import Derived.Test.YtjahkildlilabaaBFqD
import Derived.Test.YtjahkildlilabaaBFqE
import Derived.Test.YtjahkildlilabaaBFqG
import Derived.Test.YtjahkildlilabaaBFqH
import Derived.Test.YtjahkildlilabaaBFqJ
import Derived.Test.YtjahkildlilabaaBFqK
import Derived.Test.YtjahkildlilabaaBFqN
import Derived.Test.YtjahkildlilabaaXw
import Derived.Test.YtjahkildlilabaaK
import Derived.Test.YtjahkildlilabaaF0
import Derived.Test.YtjahkildlilabaaF1
set_option linter.unusedVariables false
set_option linter.unusedSimpArgs false
set_option linter.unusedSectionVars false
namespace Go.X
open Go.Proofs
namespace FqP
open Arith ArithC Lists _root_.Go.X.Tree TreeC TreeD TreeE TreeF FqM FqC FqD FqE FqG FqH FqJ FqK FqN
abbrev ones : List Int := [1, 1, 1, 1, 1, 1, 1, 1]
theorem u_ones : ∀ x ∈ ones, U x := fun x hx => by
  have : x = 1 := by simpa using hx
  rw [this]; exact U_lit 1
theorem rate_ones {i : Nat} (h : i < 8) : rateA ones i = 1 := by
  have : i = 0 ∨ i = 1 ∨ i = 2 ∨ i = 3 ∨ i = 4 ∨ i = 5 ∨ i = 6 ∨ i = 7 := by omega
  rcases this with rfl | rfl | rfl | rfl | rfl | rfl | rfl | rfl <;> rfl
theorem delay_9 : delayI 9 (lessI 1 0) = 1000000000 := by decide +kernel
def lenOf (x : Int) : Int := IntKind.i64.wrap (1 + IntKind.i64.wrap ((IntKind.u64.wrap x).tmod 1000))
theorem lenOf_r (x : Int) : 1 ≤ lenOf x ∧ lenOf x ≤ 1000 := by
  have h := modr x (m := 1000) (by decide) (by decide)
  unfold lenOf
  rw [wi (by omega) (by omega)]; omega
def segs (i : Nat) (z : List Int) : Nat → List Sg
  | 0 => []
  | j + 1 => segs i z j ++ [((i : Int), (j : Int), lenOf (z[j]?.getD 0), 0, false)]
theorem segs_len (i : Nat) (z : List Int) : ∀ j, (segs i z j).length = j
  | 0 => rfl
  | j + 1 => by simp [segs, segs_len i z j]
theorem segs_at (i : Nat) (z : List Int) : ∀ {j k : Nat}, k < j → (segs i z j)[k]? = some ((i : Int), (k : Int), lenOf (z[k]?.getD 0), 0, false)
  | j + 1, k, h => by
    rw [segs]
    by_cases e : k < j
    · rw [List.getElem?_append_left (by rw [segs_len]; exact e)]
      exact segs_at i z e
    · have : k = j := by omega
      subst this
      rw [List.getElem?_append_right (by rw [segs_len]; omega), segs_len]
      simp
abbrev sgC (i : Nat) (n : Int) : Sg := ((i : Int), 0, n, 0, false)
abbrev lI (i : Nat) : LV := ([(i : Int)], [])
def kv1 (i : Nat) (n : Int) : Qm := one plainC i ⟨15000, 0, 0, [sgC i n]⟩ (lI i) []
def kvL (i : Nat) (z : List Int) (j : Nat) : Qm := one plainC i ⟨14991, 1000000000, 0, segs i z j⟩ (lI i) []
section
variable {i : Nat} (hi : i < 8)
include hi
theorem kk (n : Int) : 0 ≤ sK (sgC i n) ∧ sK (sgC i n) ≤ 7 := by show 0 ≤ (i : Int) ∧ (i : Int) ≤ 7; omega
theorem kv1_eq {n : Int} (h : 1 ≤ n ∧ n ≤ 65536) : enqF (newF plainC) (sgC i n) 0 = ((0, 0), kv1 i n) := by
  rw [enq_new plain_ok (s := sgC i n) (now := 0) (kk hi n) h (by decide) (fun x => by cases x.2)]
  rfl
theorem kv1_ok {n : Int} (h : 1 ≤ n ∧ n ≤ 65536) : OkQ (kv1 i n) := by
  have := ok0.enq (s := sgC i n) (now := 0) ⟨u0, u0⟩ u0
  rwa [kv1_eq hi h] at this
theorem kv2_eq : deqF (kv1 i 9) 0 ones = (some (sgC i 9), kvL i [] 0) := by
  have hv := kv1_ok hi (n := 9) (by decide)
  rw [deq_eq]
  unfold kv1 at hv ⊢
  rw [due_nil, one_send hv (.inl rfl) (by show (15000 : Int) > 0; decide) (s := sgC i 9) (l := []) rfl (by show (0 : Int) ≤ 0; decide), rate_ones hi]
  show (some (sgC i 9), one plainC i ⟨15000 - 9, addI 0 (delayI 9 (lessI 1 0)), 0, []⟩ (lI i) []) = _
  rw [delay_9]
  rfl
theorem kvL_ok0 (z : List Int) : OkQ (kvL i z 0) := by
  have := deq_ok (kv1_ok hi (n := 9) (by decide)) u0 u_ones
  rwa [kv2_eq hi] at this
theorem kvL_step {z : List Int} {j : Nat} (hj : j < 20) (hv : OkQ (kvL i z j)) : enqF (kvL i z j) ((i : Int), (j : Int), lenOf (z[j]?.getD 0), 0, false) 0 = ((0, 0), kvL i z (j + 1)) := by
  have hl := lenOf_r (z[j]?.getD 0)
  unfold kvL at hv ⊢
  rw [enq_more hv (s := ((i : Int), (j : Int), lenOf (z[j]?.getD 0), 0, false)) (now := 0) rfl hi (by show 1 ≤ lenOf _ ∧ lenOf _ ≤ 65536; omega) (by decide) (fun x => by cases x.2) (by show ((segs i z j).length : Int) < 100; rw [segs_len]; omega) (by show ((segs i z j).length : Int) < 50; rw [segs_len]; omega) (by
    rw [plc_one]
    have : placeF (lI i) (i : Int) = 1 := by simp [placeF]
    rw [this]; simp)]
  rfl
theorem kvL_ok {z : List Int} : ∀ {j : Nat}, j ≤ 20 → OkQ (kvL i z j)
  | 0, _ => kvL_ok0 hi z
  | j + 1, h => by
    have hv := kvL_ok (z := z) (j := j) (by omega)
    have := hv.enq (s := ((i : Int), (j : Int), lenOf (z[j]?.getD 0), 0, false)) (now := 0) ⟨by show U (j : Int); unfold U; omega, u0⟩ u0
    rwa [kvL_step hi (by omega) hv] at this
/-- What is closed is all of it, and nothing is left. -/
theorem close_all {z : List Int} {m : Nat} (hm : m ≤ 20) : closeF (deqF (kvL i z m) 0 ones).2 (i : Int) = (segs i z m, newF plainC) := by
  have hv := kvL_ok hi (z := z) hm
  rw [deq_eq]
  unfold kvL at hv ⊢
  rw [due_nil]
  have hn : ∀ f : Fl, upF (upF (fun _ => none) i (some f)) i none = fun _ => none := fun f => by
    rw [upF_up]
    funext j
    by_cases e : j = i
    · rw [e, upF_same]
    · rw [upF_ne _ _ e]
  have ho : outF ([], []) (i : Int) = ([], []) := rfl
  have h7 : ¬ ¬ (0 ≤ (i : Int) ∧ (i : Int) ≤ 7) := fun h => h (by omega)
  by_cases e : m = 0
  · subst e
    rw [one_empty u0 u_ones _ _ _ hv (.inl rfl) rfl (Nat.le_refl _)]
    unfold closeF
    rw [if_neg h7, Int.toNat_natCast, one_fl]
    simp only
    refine Prod.ext rfl ?_
    show (⟨plainC, upF (upF (fun _ => none) i (some _)) i none, outF ([], []) (i : Int), _, _⟩ : Qm) = _
    rw [hn, ho, plc_one]
    rfl
  · have hne : segs i z m ≠ [] := fun x => by have := segs_len i z m; rw [x] at this; exact e this.symm
    have hst : timeF ⟨14991, 1000000000, 0, segs i z m⟩ = 1000000000 := by
      have h0 : (segs i z m)[0]? = _ := segs_at i z (show 0 < m by omega)
      unfold timeF
      cases hs : segs i z m with
      | nil => exact absurd hs hne
      | cons s l =>
        rw [hs] at h0
        simp only [List.getElem?_cons_zero, Option.some.injEq] at h0
        rw [h0]
        rfl
    rw [one_wait hv (.inl rfl) u0 u_ones (by show (14991 : Int) > 0; decide) hne (by rw [hst]; decide), hst]
    unfold closeF
    rw [if_neg h7, Int.toNat_natCast, one_fl]
    simp only
    refine Prod.ext rfl ?_
    show (⟨plainC, upF (upF (fun _ => none) i (some _)) i none, outF ([], []) (i : Int), _, _⟩ : Qm) = _
    rw [hn, ho, plc_one, hst]
    have hp : placeF ([], []) (i : Int) = 0 := by simp [placeF]
    rw [hp, if_pos (show (if (0 : Int) ≠ 0 then (0 : Int) else if segs i z m = [] then 0 else 3) = 3 by rw [if_neg (by simp), if_neg hne])]
    show (⟨plainC, _, _, [((1000000000 : Int), (i : Int))].erase (1000000000, (i : Int)), ((segs i z m).length : Int) - (segs i z m).length⟩ : Qm) = _
    rw [List.erase_cons_head, Int.sub_self]
end
theorem close_new (j : Int) : closeF (newF plainC) j = ([], newF plainC) := by
  unfold closeF
  split
  · rfl
  · rfl
theorem closes_tri (d : Sl) (z : List Int) (o : Int) : Tri Try.prog N_canterlaw20_FqCloses [.lf (.sl d), .lf (.int .i64 o)] [.lf .bool] (rarr d KI z) (fun r => pur (r = true) emp) :=
  tri_0 (call_canterlaw20_FqCloses d o) fun w0 S R h => by
    unfold W_canterlaw20_FqCloses
    have hd := modr o (m := 8) (by decide) (by decide)
    obtain ⟨i, hie⟩ : ∃ i : Nat, IntKind.i64.wrap ((IntKind.u64.wrap o).tmod 8) = (i : Int) := ⟨(IntKind.i64.wrap ((IntKind.u64.wrap o).tmod 8)).toNat, by omega⟩
    rw [hie] at hd ⊢
    have hi : i < 8 := by omega
    have hdl := ((h.le (star_emp _)).rd (s := d)).2
    obtain ⟨m, hme⟩ : ∃ m : Nat, (if (20 : Int) < ((d.len : Nat) : Int) then (20 : Int) else ((d.len : Nat) : Int)) = (m : Int) ∧ m ≤ 20 ∧ m ≤ z.length := by
      by_cases c : (20 : Int) < ((d.len : Nat) : Int)
      · exact ⟨20, by rw [if_pos c]; rfl, by omega, by omega⟩
      · exact ⟨d.len, by rw [if_neg c], by omega, by omega⟩
    obtain ⟨hme, hm20, hmz⟩ := hme
    rw [hme]
    refine w_call plain_tri (h.le (star_emp _)) fun r w h => ?_
    obtain ⟨hr, h⟩ := h.purP; rw [hr]
    refine w_new h fun n2 w h => w_setAll h (by rfl) fun w h => w_ldAll (b := n2) (x := plainC) h rfl ?_
    refine w_call (new_tri plainC) h fun r w h => ?_
    obtain ⟨b, h⟩ := h.exP
    obtain ⟨hr, h⟩ := h.purP
    rw [if_pos plain_may] at hr h
    rw [hr]
    refine w_call awake_tri h fun r w h => ?_
    obtain ⟨hr, h⟩ := h.purP; rw [hr]
    refine w_ite (fun c => (by simp at c)) fun _ => ?_
    refine w_new h fun n6 w h => ?_
    have h := h.blkArr n6 KU ones rfl (by simp)
    refine w_call (enq_tri b (newF plainC) ok0 (sgC i 9) 0 ⟨u0, u0⟩ u0) h fun r w h => ?_
    obtain ⟨_, h⟩ := h.purP
    rw [kv1_eq hi (by decide)] at h
    refine w_callL (deq_tri b (kv1 i 9) (kv1_ok hi (by decide)) 0 u0 ⟨some ⟨n6, 0⟩, 8, 8⟩ ones u_ones) h fun r w h => ?_
    obtain ⟨_, h⟩ := h.purP
    rw [kv2_eq hi] at h
    have e0 : kvL i [] 0 = kvL i z (0 : Int).toNat := rfl
    rw [e0] at h
    have h : Own w0 S R w (que b (kvL i z (0 : Int).toNat) ^ arr ⟨some ⟨n6, 0⟩, 8, 8⟩ KU ones ^ blk n2 (Ks.mk KC plainC) ^ rarr d KI z) := h.fin
    refine w_loop (fun y : Int => que b (kvL i z y.toNat) ^ arr ⟨some ⟨n6, 0⟩, 8, 8⟩ KU ones ^ blk n2 (Ks.mk KC plainC) ^ rarr d KI z) (fun y : Int => 0 ≤ y ∧ y ≤ m) (fun y : Int => (m - y).toNat) h ⟨by decide, by omega⟩ ?_
    rintro (y : Int) w hy h
    have hw : IntKind.i64.wrap (y + 1) = y + 1 := wi (by omega) (by omega)
    have hvy := kvL_ok hi (z := z) (j := y.toNat) (by omega)
    refine w_ite (fun c => ?_) fun c => ?_
    · have c : y < m := by simpa using c
      have hz : z[y.toNat]? = some (z[y.toNat]'(by omega)) := List.getElem?_eq_getElem (by omega)
      refine w_idx (s := d) h hy.1 (by omega) (w_ldE h d y.toNat hz rfl ?_)
      have ey : ((y.toNat : Nat) : Int) = y := by omega
      have hwy : IntKind.u64.wrap y = y := wu (by omega) (by omega)
      have es : (((i : Int), y, lenOf (z[y.toNat]'(by omega)), 0, false) : Sg) = ((i : Int), ((y.toNat : Nat) : Int), lenOf (z[y.toNat]?.getD 0), 0, false) := by rw [ey, hz]; rfl
      rw [hwy]
      refine w_call (enq_tri b (kvL i z y.toNat) hvy ((i : Int), y, lenOf (z[y.toNat]'(by omega)), 0, false) 0 ⟨by show U y; unfold U; omega, u0⟩ u0) h fun r w h => ?_
      obtain ⟨_, h⟩ := h.purP
      rw [es, kvL_step hi (by omega) hvy] at h
      have e : (y + 1).toNat = y.toNat + 1 := by omega
      rw [hw, e]
      exact ⟨⟨by omega, h.fin⟩, by omega⟩
    have c : ¬ y < m := by simpa using c
    have e : y.toNat = m := by omega
    rw [e] at h hvy
    clear e c hy hw
    refine w_callL (deq_tri b (kvL i z m) hvy 0 u0 ⟨some ⟨n6, 0⟩, 8, 8⟩ ones u_ones) h fun r w h => ?_
    obtain ⟨_, h⟩ := h.purP
    refine w_call (close_tri b (deqF (kvL i z m) 0 ones).2 (deq_ok hvy u0 u_ones) (i : Int)) h fun r15 w h => ?_
    have hca := close_all hi (z := z) hm20
    rw [hca] at h
    have hrl := (h.rd (s := r15)).2
    rw [segs_len] at hrl
    refine w_call (flow_tri b (newF plainC) ok0 (i : Int)) h fun r w h => ?_
    obtain ⟨s1, h⟩ := h.exP
    obtain ⟨hr, h⟩ := h.purP; rw [hr]
    have q1 : seenF (newF plainC) (i : Int) s1 = (noF, false) := by
      unfold seenF
      rw [if_neg (by unfold hasF; simp)]
    rw [q1]
    refine w_new h fun n17 w h => w_setAll h (by rfl) fun w h => w_call (min_tri b (newF plainC)) h fun r w h => ?_
    obtain ⟨hr, h⟩ := h.purP; rw [hr]
    have h : Own w0 S R w (que b (newF plainC) ^ arr r15 KS (segs i z m) ^ blk n2 (Ks.mk KC plainC)) := h.fin
    refine w_join h (fun _ => que b (newF plainC) ^ arr r15 KS (segs i z m) ^ blk n2 (Ks.mk KC plainC)) (fun y : Bool => y = false) (fun (y : Bool) w hy h => ?_) ?_
    · rw [hy]
      refine w_ite (fun c => (by cases c)) fun _ => ?_
      refine w_loop (fun y : Int => que b (newF plainC) ^ arr r15 KS (segs i z m) ^ blk n2 (Ks.mk KC plainC)) (fun y : Int => 0 ≤ y ∧ y ≤ m) (fun y : Int => (m - y).toNat) h ⟨by decide, by omega⟩ ?_
      rintro (y : Int) w hy h
      have hw : IntKind.i64.wrap (y + 1) = y + 1 := wi (by omega) (by omega)
      refine w_ite (fun c => ?_) fun c => ?_
      · have c : y < m := by simpa using c
        have hz := segs_at i z (show y.toNat < m by omega)
        have ey : ((y.toNat : Nat) : Int) = y := by omega
        have hwy : IntKind.u64.wrap y = y := wu (by omega) (by omega)
        refine w_idx (s := r15) h hy.1 (by rw [segs_len]; omega) (w_ldA h r15 y.toNat 1 _ hz rfl (by decide) rfl ?_)
        refine w_ite (fun c => ?_) fun _ => ?_
        · exfalso
          have c : (((y.toNat : Nat) : Int) != IntKind.u64.wrap y) = true := c
          rw [hwy, ey] at c
          simp at c
        · rw [hw]
          exact ⟨⟨by omega, h⟩, by omega⟩
      · refine w_call (enq_tri b (newF plainC) ok0 (sgC i 3) 0 ⟨u0, u0⟩ u0) h fun r w h => ?_
        obtain ⟨_, h⟩ := h.purP
        rw [kv1_eq hi (by decide)] at h
        have hk := kv1_ok hi (n := 3) (by decide)
        refine w_call (flow_tri b (kv1 i 3) hk (i : Int)) h fun r w h => ?_
        obtain ⟨s2, h⟩ := h.exP
        obtain ⟨hr, h⟩ := h.purP; rw [hr]
        have q2 : seenF (kv1 i 3) (i : Int) s2 = _ := (seen_one plainC i ⟨15000, 0, 0, [sgC i 3]⟩ (lI i) [] s2 hi).1
        rw [q2]
        refine w_new h fun n30 w h => w_setAll h (by rfl) fun w h => ?_
        have h := h.nil KU
        refine w_callL (deq_tri b (kv1 i 3) hk 0 u0 ⟨none, 0, 0⟩ [] nor) h fun r w h => ?_
        obtain ⟨hr, h⟩ := h.purP; rw [hr]
        have hdq : (deqF (kv1 i 3) 0 []).1 = some (sgC i 3) := by
          rw [deq_eq]
          unfold kv1 at hk ⊢
          rw [due_nil, one_send hk (.inl rfl) (by show (15000 : Int) > 0; decide) (s := sgC i 3) (l := []) rfl (by show (0 : Int) ≤ 0; decide)]
        rw [hdq]
        refine w_new h fun n32 w h => w_setAll h (by rfl) fun w h => ?_
        refine w_ld h rfl (w_ite (fun _ => ?_) fun c => (by cases c))
        refine w_ld h rfl (w_ld h rfl ?_)
        exact Own.retP rfl h.emp'
    · refine w_ite (fun c => ?_) fun _ => ?_
      · rw [hrl] at c
        simp [minF] at c
      refine w_call (len_tri b (newF plainC)) h fun r w h => ?_
      obtain ⟨hr, h⟩ := h.purP; rw [hr]
      refine w_ite (fun c => (by cases c)) fun _ => ?_
      refine w_call (close_tri b (newF plainC) ok0 (i : Int)) h fun r w h => ?_
      rw [close_new] at h
      have hr0 := (h.rd (s := r)).2
      refine w_ite (fun c => (by rw [hr0] at c; simp at c)) fun _ => ?_
      refine w_call (close_tri b (newF plainC) ok0 (-1)) h fun r2 w h => ?_
      rw [close_new] at h
      have hr2 := (h.rd (s := r2)).2
      refine ⟨by rw [hr2]; simp, h.fin⟩
end FqP

end Go.X
