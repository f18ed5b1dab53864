/- Contracts and plain facts: FqV. -/
import Derived.Test.YtjahkildlilabaaBPlain
import Derived.Test.YtjahkildlilabaaBArith
import Derived.Test.YtjahkildlilabaaBArithC
import Derived.Test.YtjahkildlilabaaBLists
import Derived.Test.YtjahkildlilabaaBTreeM
import Derived.Test.YtjahkildlilabaaBTreeN
import Derived.Test.YtjahkildlilabaaBTreeA
import Derived.Test.YtjahkildlilabaaBTreeB
import Derived.Test.YtjahkildlilabaaBTreeC
import Derived.Test.YtjahkildlilabaaBTreeD
import Derived.Test.YtjahkildlilabaaBTreeE
import Derived.Test.YtjahkildlilabaaBTreeF
import Derived.Test.YtjahkildlilabaaBFqM
import Derived.Test.YtjahkildlilabaaBFqC
import Derived.Test.YtjahkildlilabaaBFqD
import Derived.Test.YtjahkildlilabaaBFqE
import Derived.Test.YtjahkildlilabaaBFqG
import Derived.Test.YtjahkildlilabaaBFqH
import Derived.Test.YtjahkildlilabaaBFqI
import Derived.Test.YtjahkildlilabaaBFqJ
import Derived.Test.YtjahkildlilabaaBFqK
import Derived.Test.YtjahkildlilabaaBFqN
import Derived.Test.YtjahkildlilabaaBFqQ
import Derived.Test.YtjahkildlilabaaBFqR
import Derived.Test.YtjahkildlilabaaBFqU
import Derived.Test.YtjahkildlilabaaXw
import Derived.Test.YtjahkildlilabaaK
import Derived.Test.YtjahkildlilabaaF0
import Derived.Test.YtjahkildlilabaaF1
set_option linter.unusedVariables false
set_option linter.unusedSimpArgs false
set_option linter.unusedSectionVars false
namespace Go.X
open Go.Proofs
namespace FqV
open Arith ArithC Lists _root_.Go.X.Tree TreeC TreeD TreeE TreeF FqM FqC FqD FqE FqG FqH FqI FqJ FqK FqN FqQ FqR FqU
theorem pick_tri (s : Sl) (z : List Int) (i : Int) (hi : 0 ≤ i) : Tri Try.prog N_canterlaw20_FqFair_c1 [.lf (.sl s), .lf (.int .i64 i)] [.lf (.int .i64)] (emp ^ rarr s KI z) (fun r => pur (1 ≤ (r : Int) ∧ (r : Int) ≤ 9000) emp) :=
  tri_0 (call_canterlaw20_FqFair_c1 s i) fun w0 S R h => by
    unfold W_canterlaw20_FqFair_c1
    have h : Own w0 S R w0 (rarr s KI z ^ emp) := h.fin
    have hs := (h.rd (s := s)).2
    refine w_ite (fun c => Own.retP ⟨by decide, by decide⟩ h.emp') fun c => ?_
    have c : ¬ ((s.len : Nat) : Int) = 0 := by simpa using c
    have t1 := Int.tmod_nonneg ((s.len : Nat) : Int) hi
    have t2 := Int.tmod_lt_of_pos i (show (0 : Int) < ((s.len : Nat) : Int) by omega)
    obtain ⟨x, hx⟩ : ∃ x, z[(i.tmod ((s.len : Nat) : Int)).toNat]? = some x := ⟨_, List.getElem?_eq_getElem (by omega)⟩
    refine ⟨c, w_idx (s := s) h t1 (by omega) (w_ldE h s _ hx rfl ?_)⟩
    have hm := modr x (m := 9000) (by decide) (by decide)
    refine Own.retP ?_ h.emp'
    show 1 ≤ IntKind.i64.wrap (1 + _) ∧ IntKind.i64.wrap (1 + _) ≤ 9000
    rw [wi (by omega) (by omega)]
    omega
abbrev pL (g : Nat → Int) : List Lf := [.int .i64 (g 0), .int .i64 (g 1)]
def upH (g : Nat → Int) (i : Nat) (x : Int) : Nat → Int := fun j => if j = i then x else g j
theorem pL_at (g : Nat → Int) {i : Nat} (hi : i < 2) : Ks.un [.int .i64] (((pL g).drop (0 + i * 1)).take 1) = some (g i) := by
  have : i = 0 ∨ i = 1 := by omega
  rcases this with rfl | rfl <;> rfl
theorem pL_up (g : Nat → Int) {i : Nat} (hi : i < 2) (x : Int) : upd (pL g) (0 + i * 1) [.int .i64 x] = pL (upH g i x) := by
  have : i = 0 ∨ i = 1 := by omega
  rcases this with rfl | rfl <;> rfl
theorem pL_ble {i : Nat} (hi : i < 2) : Nat.ble (0 + i * 1 + 1) 2 = true := Nat.ble_eq_true_of_le (by omega)
/-- In the middle of filling: the first so many have three, of the next there are so many. -/
structure Fo (cf : Cf) (lg k : Int) (i : Nat) (y : Nat) (w : Two) (v : Qm) (g : Nat → Int) : Prop where
  f : FqU.Fair cf lg w v
  m : ∀ j, j < 2 → w.m j ≤ 3
  up : ∀ j, j < 2 → j < i → w.m j = 3
  g : ∀ j, j < 2 → 0 ≤ g j ∧ g j ≤ 3 * k + if j < i then 3 else if j = i then (y : Int) else 0
  s : ∀ j, j < 2 → 0 ≤ w.s j ∧ w.s j ≤ 9000 * k
  lg : lg ≤ 9000
abbrev W3 := Two × Qm × (Nat → Int)
theorem fair_tri (d : Cf) (o a a' : Sl) (z1 z2 z3 : List Int) (k1 k2 : Int) (hd : 0 ≤ cH d ∧ U (cR d)) : Tri Try.prog N_canterlaw20_FqFair [.agg (Ks.mk KC d), .lf (.sl o), .lf (.sl a), .lf (.sl a'), .lf (.int .i64 k1), .lf (.int .i64 k2)] [.lf .bool] (rarr o KI z1 ^ rarr a KI z2 ^ rarr a' KI z3) (fun r => pur (r = true) emp) :=
  tri_0 (call_canterlaw20_FqFair d o a a' k1 k2) fun w0 S R h => by
    unfold W_canterlaw20_FqFair
    have hm1 := modr k1 (m := 400) (by decide) (by decide)
    have hm2 := modr k2 (m := 30) (by decide) (by decide)
    obtain ⟨n, hne⟩ : ∃ n, n = IntKind.i64.wrap ((IntKind.u64.wrap k1).tmod 400) := ⟨_, rfl⟩
    obtain ⟨st, hse⟩ : ∃ st, st = IntKind.i64.wrap ((IntKind.u64.wrap k2).tmod 30) := ⟨_, rfl⟩
    rw [← hne, ← hse]
    rw [← hne] at hm1
    rw [← hse] at hm2
    have hal := ((h.take (rarr a' KI z3)).rd (s := a')).2
    obtain ⟨c0, hce⟩ : ∃ c0, c0 = configF d := ⟨_, rfl⟩
    have hc0 : OkC c0 := by rw [hce]; exact config_ok hd.1 hd.2
    have hm0 : may c0 = true := by rw [hce]; exact config_may d
    obtain ⟨cf, hcf⟩ : ∃ cf : Cf, cf = (cQ c0, cF c0, 512, 40, cH c0, 0, cD c0, cCap c0, cMss c0) := ⟨_, rfl⟩
    have hm : may cf = true := by
      have q1 := hc0.q
      have q2 := hc0.f
      have q3 := hc0.h
      have q4 := hc0.cap
      have q5 := hc0.mss
      rw [hcf]
      unfold may
      simp only [Bool.and_eq_true, decide_eq_true_eq]
      exact ⟨q1, q2, ⟨show (1 : Int) ≤ 512 by decide, show (512 : Int) ≤ 512 by decide⟩, ⟨show (1 : Int) ≤ 40 by decide, show (40 : Int) ≤ 512 by decide⟩, q3.2, q4, q5⟩
    have hc : OkC cf := may_ok hm (by rw [hcf]; exact hc0.h.1) (by rw [hcf]; exact u0)
    refine w_new h fun n1 w h => w_ldAll (b := n1) (x := d) h rfl (w_call (config_tri d) h fun r w h => ?_)
    obtain ⟨hr, h⟩ := h.purP; rw [hr, ← hce]
    refine w_setAll h (by rfl) fun w h => ?_
    refine w_setTo h n1 [.int .i64 (cQ c0), .int .i64 (cF c0), .int .i64 (cL c0), .int .i64 (cW c0), .int .u64 (cH c0), .int .u64 0, .bool (cD c0), .int .i64 (cCap c0), .int .i64 (cMss c0)] rfl rfl rfl fun w h => ?_
    refine w_setTo h n1 [.int .i64 (cQ c0), .int .i64 (cF c0), .int .i64 512, .int .i64 (cW c0), .int .u64 (cH c0), .int .u64 0, .bool (cD c0), .int .i64 (cCap c0), .int .i64 (cMss c0)] rfl rfl rfl fun w h => ?_
    refine w_setTo h n1 (Ks.mk KC cf) rfl rfl (by rw [hcf]; rfl) fun w h => ?_
    refine w_ldAll (b := n1) (x := cf) h rfl (w_call (new_tri cf) h fun r w h => ?_)
    obtain ⟨b, h⟩ := h.exP
    obtain ⟨hr, h⟩ := h.purP
    rw [if_pos hm] at hr h
    rw [hr]
    refine w_call awake_tri h fun r w h => ?_
    obtain ⟨hr, h⟩ := h.purP; rw [hr]
    refine w_ite (fun c => (by simp at c)) fun _ => ?_
    refine w_new h fun n7 w h => w_new h fun n8 w h => ?_
    have h := h.blkEq (b := n7) (L' := pL (fun _ => 0)) rfl
    have h := h.blkEq (b := n8) (L' := pL (fun _ => 0)) rfl
    have hF0 : FqU.Fair cf 0 ⟨fun _ => 0, fun _ => 0, fun _ => 0⟩ (newF cf) := ⟨OkQ.new hc, rfl, by rw [hcf]; exact ⟨rfl, rfl, rfl⟩, Int.le_refl _, fun _ => (by show (0 : Int) ≤ 40; decide), fun j f hf => (by cases hf), rfl, fun i _ => .inl ⟨rfl, rfl, rfl, rfl⟩, .inl ⟨rfl, fun x => absurd x (by simp [inL])⟩, fun _ => rfl, fun _ => rfl⟩
    have hP0 : Fo cf 0 0 0 0 ⟨fun _ => 0, fun _ => 0, fun _ => 0⟩ (newF cf) (fun _ => 0) := ⟨hF0, fun _ _ => Nat.zero_le _, fun j _ hj => absurd hj (by omega), fun j hj => ⟨Int.le_refl _, by (repeat' split) <;> omega⟩, fun _ _ => ⟨Int.le_refl _, by show (0 : Int) ≤ 9000 * 0; decide⟩, by decide⟩
    have h := h.inq (f := fun x : W3 => que b x.2.1 ^ blk n7 (pL x.2.2) ^ blk n8 (pL x.1.s)) (φ := fun x : W3 => Fo cf ((0 : Int), (0 : Int)).1 ((0 : Int), (0 : Int)).2 0 0 x.1 x.2.1 x.2.2) (⟨fun _ => 0, fun _ => 0, fun _ => 0⟩, newF cf, fun _ => 0) hP0
    have h : Own w0 S R w (exq (fun x : W3 => Fo cf ((0 : Int), (0 : Int)).1 ((0 : Int), (0 : Int)).2 0 0 x.1 x.2.1 x.2.2) (fun x : W3 => que b x.2.1 ^ blk n7 (pL x.2.2) ^ blk n8 (pL x.1.s)) ^ blk n1 (Ks.mk KC cf) ^ rarr o KI z1 ^ rarr a KI z2 ^ rarr a' KI z3) := h.fin
    refine w_loop (fun y : Int × Int => exq (fun x : W3 => Fo cf y.1 y.2 0 0 x.1 x.2.1 x.2.2) (fun x : W3 => que b x.2.1 ^ blk n7 (pL x.2.2) ^ blk n8 (pL x.1.s)) ^ blk n1 (Ks.mk KC cf) ^ rarr o KI z1 ^ rarr a KI z2 ^ rarr a' KI z3) (fun y : Int × Int => 0 ≤ y.2 ∧ y.2 ≤ n) (fun y : Int × Int => (n - y.2).toNat) h ⟨by decide, hm1.1⟩ ?_
    rintro (y0 : Int × Int) w hk h
    obtain ⟨lg, k⟩ := y0
    dsimp only at hk h
    have hwk : IntKind.i64.wrap (k + 1) = k + 1 := wi (by omega) (by omega)
    refine w_ite (fun c => ?_) fun c => Own.retP rfl h.emp'
    have ck : k < n := by simpa using c
    clear c
    refine w_loop (fun y : Int × Int => exq (fun x : W3 => Fo cf y.1 k y.2.toNat 0 x.1 x.2.1 x.2.2) (fun x : W3 => que b x.2.1 ^ blk n7 (pL x.2.2) ^ blk n8 (pL x.1.s)) ^ blk n1 (Ks.mk KC cf) ^ rarr o KI z1 ^ rarr a KI z2 ^ rarr a' KI z3) (fun y : Int × Int => 0 ≤ y.2 ∧ y.2 ≤ 2) (fun y : Int × Int => (2 - y.2).toNat) h ⟨show (0 : Int) ≤ 0 by decide, show (0 : Int) ≤ 2 by decide⟩ ?_
    rintro (y1 : Int × Int) w hi h
    obtain ⟨lg, i⟩ := y1
    dsimp only at hi h
    obtain ⟨⟨w2, v, g⟩, hFo, h⟩ := h.outq
    dsimp only at hFo h
    refine w_ite (fun c => ?_) fun c => ?_
    · have ci : i < 2 := by simpa using c
      clear c
      obtain ⟨j, hj⟩ : ∃ j : Nat, i = (j : Int) := ⟨i.toNat, by omega⟩
      have hj2 : j < 2 := by omega
      rw [hj] at hFo ⊢
      rw [Int.toNat_natCast] at hFo
      refine w_call (flow_tri b v hFo.f.ok (j : Int)) h fun r w h => ?_
      obtain ⟨s, h⟩ := h.exP
      obtain ⟨hr, h⟩ := h.purP; rw [hr]
      have hsl := (h.rd (s := s)).2
      have hlen : (seenF v (j : Int) s).1.2.2.2.2.2.len = w2.m j := by
        rcases hFo.f.two j hj2 with ⟨z1, z2, _, _⟩ | ⟨f, hf⟩
        · rw [(seen_none s z2).1, z1]
        · rw [(seen_some s (by omega) hf.fl).2] at hsl
          rw [(seen_some s (by omega) hf.fl).1]
          show s.len = _
          rw [hsl, hf.len]
      refine w_new h fun n14 w h => w_setAll h (by rfl) fun w h => w_ld h rfl ?_
      rw [hlen]
      have hmj := hFo.m j hj2
      have hPj : Fo cf lg k j (w2.m j) w2 v g ∧ w2.m j = (((w2.m j : Nat) : Int)).toNat := ⟨⟨hFo.f, hFo.m, hFo.up, fun q hq => by
        have := hFo.g q hq
        refine ⟨this.1, ?_⟩
        have := this.2
        (repeat' split at this) <;> (repeat' split) <;> omega, hFo.s, hFo.lg⟩, by rw [Int.toNat_natCast]⟩
      have h := h.inq (f := fun x : W3 => que b x.2.1 ^ blk n7 (pL x.2.2) ^ blk n8 (pL x.1.s)) (φ := fun x : W3 => Fo cf (lg, ((w2.m j : Nat) : Int)).1 k j (lg, ((w2.m j : Nat) : Int)).2.toNat x.1 x.2.1 x.2.2 ∧ x.1.m j = (lg, ((w2.m j : Nat) : Int)).2.toNat) (w2, v, g) hPj
      have h : Own w0 S R w (exq (fun x : W3 => Fo cf (lg, ((w2.m j : Nat) : Int)).1 k j (lg, ((w2.m j : Nat) : Int)).2.toNat x.1 x.2.1 x.2.2 ∧ x.1.m j = (lg, ((w2.m j : Nat) : Int)).2.toNat) (fun x : W3 => que b x.2.1 ^ blk n7 (pL x.2.2) ^ blk n8 (pL x.1.s)) ^ blk n1 (Ks.mk KC cf) ^ rarr o KI z1 ^ rarr a KI z2 ^ rarr a' KI z3) := h.fin
      clear hPj hlen hsl hr hFo
      refine w_loop (fun y : Int × Int => exq (fun x : W3 => Fo cf y.1 k j y.2.toNat x.1 x.2.1 x.2.2 ∧ x.1.m j = y.2.toNat) (fun x : W3 => que b x.2.1 ^ blk n7 (pL x.2.2) ^ blk n8 (pL x.1.s)) ^ blk n1 (Ks.mk KC cf) ^ rarr o KI z1 ^ rarr a KI z2 ^ rarr a' KI z3) (fun y : Int × Int => 0 ≤ y.2 ∧ y.2 ≤ 3) (fun y : Int × Int => (3 - y.2).toNat) h ⟨by show (0 : Int) ≤ ((w2.m j : Nat) : Int); omega, by show ((w2.m j : Nat) : Int) ≤ 3; omega⟩ ?_
      rintro (y2 : Int × Int) w hy h
      obtain ⟨lg, y⟩ := y2
      dsimp only at hy h
      obtain ⟨⟨w3, v, g⟩, ⟨hFo, hmy⟩, h⟩ := h.outq
      dsimp only at hFo hmy h
      have hwy : IntKind.i64.wrap (y + 1) = y + 1 := wi (by omega) (by omega)
      refine w_ite (fun c => ?_) fun c => ?_
      · have cy : y < 3 := by simpa using c
        clear c
        have hgj := hFo.g j hj2
        rw [if_neg (by omega), if_pos rfl] at hgj
        refine ⟨by omega, ?_⟩
        rw [Int.toNat_natCast]
        refine w_ld h (pL_at g hj2) ?_
        refine w_callvL (Tri.g (f := N_canterlaw20_FqFair_c1) (args := [.lf (.sl o), .lf (.int .i64 (g j))]) (caps := []) (pick_tri o z1 (g j) hgj.1)).v h fun r19 w h => ?_
        obtain ⟨hr19, h⟩ := h.purP
        have h : Own w0 S R w (que b v ^ blk n7 (pL g) ^ blk n8 (pL w3.s) ^ blk n1 (Ks.mk KC cf) ^ rarr o KI z1 ^ rarr a KI z2 ^ rarr a' KI z3) := h.fin
        refine w_join h (fun _ => que b v ^ blk n7 (pL g) ^ blk n8 (pL w3.s) ^ blk n1 (Ks.mk KC cf) ^ rarr o KI z1 ^ rarr a KI z2 ^ rarr a' KI z3) (fun x : Int => 1 ≤ x ∧ x ≤ 9000) (fun (x : Int) w hx h => ?_) ?_
        · refine ⟨by omega, ?_⟩
          refine w_ld h (pL_at g hj2) ⟨by omega, ?_⟩
          have hgw : IntKind.i64.wrap (g j + 1) = g j + 1 := wi (by omega) (by omega)
          rw [hgw]
          refine w_setTo h n7 (pL (upH g j (g j + 1))) rfl (by exact pL_ble hj2) (pL_up g hj2 _) fun w h => ?_
          refine w_call (enq_tri b v hFo.f.ok ((j : Int), 0, x, 0, false) 0 ⟨u0, u0⟩ u0) h fun r w h => ?_
          obtain ⟨_, h⟩ := h.purP
          have hcn : FqM.cnt (v.fl j) < 40 := by
            rcases hFo.f.two j hj2 with ⟨_, z2, _, _⟩ | ⟨f, hf⟩
            · rw [z2]; decide
            · rw [hf.fl]
              show ((f.sg.length : Nat) : Int) < 40
              rw [hf.len]
              have := hFo.m j hj2
              omega
          have hz : j = 1 → v.fl 0 ≠ none := fun e => not_none0 hFo.f (by rw [hFo.up 0 (by decide) (by omega)]; decide)
          have hle : lg ≤ (if x > lg then x else lg) ∧ x ≤ (if x > lg then x else lg) ∧ (if x > lg then x else lg) ≤ 9000 := by
            have := hFo.lg
            split <;> omega
          have hF2 := (fair_enq hFo.f (i := j) (by omega) (s := ((j : Int), 0, x, 0, false)) rfl (show 1 ≤ x ∧ x ≤ 65536 by omega) u0 rfl hle.1 (fun _ => hle.2.1) hz).1 hcn
          have hy1 : (y + 1).toNat = y.toNat + 1 := by omega
          have hPj : Fo cf (if x > lg then x else lg) k j (y + 1).toNat ⟨w3.s, w3.r, fun q => if q = j then w3.m q + 1 else w3.m q⟩ (enqF v ((j : Int), 0, x, 0, false) 0).2 (upH g j (g j + 1)) ∧ (if j = j then w3.m j + 1 else w3.m j) = (y + 1).toNat := by
            refine ⟨⟨hF2, fun q hq => ?_, fun q hq hq2 => ?_, fun q hq => ?_, hFo.s, hle.2.2⟩, ?_⟩
            · show (if q = j then w3.m q + 1 else w3.m q) ≤ 3
              have := hFo.m q hq
              split
              · rename_i e; rw [e, hmy]; omega
              · exact this
            · show (if q = j then w3.m q + 1 else w3.m q) = 3
              rw [if_neg (by omega)]; exact hFo.up q hq hq2
            · show 0 ≤ (if q = j then g j + 1 else g q) ∧ (if q = j then g j + 1 else g q) ≤ _
              have hq3 := hFo.g q hq
              rw [hy1]
              by_cases e : q = j
              · subst e
                rw [if_neg (by omega), if_pos rfl] at hq3
                rw [if_pos rfl, if_neg (by omega), if_pos rfl]
                omega
              · rw [if_neg e] at hq3 ⊢
                rw [if_neg e]
                exact hq3
            · rw [if_pos rfl, hmy, hy1]
          have h := h.inq (f := fun x : W3 => que b x.2.1 ^ blk n7 (pL x.2.2) ^ blk n8 (pL x.1.s)) (φ := fun q : W3 => Fo cf (if x > lg then x else lg) k j (y + 1).toNat q.1 q.2.1 q.2.2 ∧ q.1.m j = (y + 1).toNat) (⟨w3.s, w3.r, fun q => if q = j then w3.m q + 1 else w3.m q⟩, (enqF v ((j : Int), 0, x, 0, false) 0).2, upH g j (g j + 1)) hPj
          rw [hwy]
          exact ⟨⟨⟨by show 0 ≤ y + 1; omega, by show y + 1 ≤ 3; omega⟩, h.fin⟩, by show (3 - (y + 1)).toNat < (3 - y).toNat; omega⟩
        · refine w_ite (fun c => ?_) fun c => ?_
          · refine ⟨by omega, ?_⟩
            refine w_ld h (pL_at g hj2) ?_
            refine w_callvL (Tri.g (f := N_canterlaw20_FqFair_c1) (args := [.lf (.sl a), .lf (.int .i64 (g j))]) (caps := []) (pick_tri a z2 (g j) hgj.1)).v h fun r23 w h => ?_
            obtain ⟨hr23, h⟩ := h.purP
            exact ⟨hr23, h.fin⟩
          · exact ⟨hr19, h⟩
      · have cy : ¬ y < 3 := by simpa using c
        have ey : y = 3 := by omega
        have e3 : y.toNat = 3 := by rw [ey]; rfl
        rw [e3] at hFo hmy
        have hwj : IntKind.i64.wrap ((j : Int) + 1) = (j : Int) + 1 := wi (by omega) (by omega)
        have hj1 : ((j : Int) + 1).toNat = j + 1 := by omega
        have hPn : Fo cf lg k ((j : Int) + 1).toNat 0 w3 v g := by
          rw [hj1]
          refine ⟨hFo.f, hFo.m, fun q hq hq2 => ?_, fun q hq => ?_, hFo.s, hFo.lg⟩
          · by_cases e : q = j
            · rw [e, hmy]
            · exact hFo.up q hq (by omega)
          · have := hFo.g q hq
            refine ⟨this.1, ?_⟩
            have := this.2
            (repeat' split at this) <;> (repeat' split) <;> omega
        have h := h.inq (f := fun x : W3 => que b x.2.1 ^ blk n7 (pL x.2.2) ^ blk n8 (pL x.1.s)) (φ := fun q : W3 => Fo cf lg k ((j : Int) + 1).toNat 0 q.1 q.2.1 q.2.2) (w3, v, g) hPn
        rw [hwj]
        exact ⟨⟨⟨by show 0 ≤ (j : Int) + 1; omega, by show (j : Int) + 1 ≤ 2; omega⟩, h.fin⟩, by show (2 - ((j : Int) + 1)).toNat < (2 - (j : Int)).toNat; omega⟩
    · have ci : ¬ i < 2 := by simpa using c
      have ei : i = 2 := by omega
      have e2 : i.toNat = 2 := by rw [ei]; rfl
      rw [e2] at hFo
      clear c
      have hm3 : w2.m 0 = 3 ∧ w2.m 1 = 3 := ⟨hFo.up 0 (by decide) (by decide), hFo.up 1 (by decide) (by decide)⟩
      have h := h.inq (f := fun x : (Nat → Nat) × Qm => que b x.2) (φ := fun x => (x.1 0 = 3 ∧ x.1 1 = 3) ∧ FqU.Fair cf lg ⟨w2.s, w2.r, x.1⟩ x.2) (w2.m, v) ⟨hm3, hFo.f⟩
      have h : Own w0 S R w (exq (fun x : (Nat → Nat) × Qm => (x.1 0 = 3 ∧ x.1 1 = 3) ∧ FqU.Fair cf lg ⟨w2.s, w2.r, x.1⟩ x.2) (fun x : (Nat → Nat) × Qm => que b x.2) ^ blk n7 (pL g) ^ blk n8 (pL w2.s) ^ blk n1 (Ks.mk KC cf) ^ rarr o KI z1 ^ rarr a KI z2 ^ rarr a' KI z3) := h.fin
      refine w_join h (fun _ => exq (fun x : (Nat → Nat) × Qm => (x.1 0 = 3 ∧ x.1 1 = 3) ∧ FqU.Fair cf lg ⟨w2.s, w2.r, x.1⟩ x.2) (fun x : (Nat → Nat) × Qm => que b x.2) ^ blk n7 (pL g) ^ blk n8 (pL w2.s) ^ blk n1 (Ks.mk KC cf) ^ rarr o KI z1 ^ rarr a KI z2 ^ rarr a' KI z3) (fun _ => True) (fun _ w _ h => ?_) ?_
      · obtain ⟨⟨m, v1⟩, ⟨⟨hq0, hq1⟩, hF1⟩, h⟩ := h.outq
        dsimp only at hq0 hq1 hF1 h
        have h := h.nil KU
        refine w_callL (deq_tri b v1 hF1.ok 0 u0 ⟨none, 0, 0⟩ [] nor) h fun r w h => ?_
        obtain ⟨hr, h⟩ := h.purP; rw [hr]
        obtain ⟨x, s, hsm, ⟨hsk, hx8⟩, hl1, hlg, r2, hF2⟩ := fair_deq hF1 (by show 2 ≤ m 0; omega) (by show 2 ≤ m 1; omega)
        refine w_new h fun n33 w h => w_setAll h (by rfl) fun w h => ?_
        rw [hsm] at h ⊢
        rw [show (outS (some s)).1 = s from rfl] at h
        refine w_ite (fun c => (by simp [outS] at c)) fun _ => ?_
        have hsk2 : s.1 = (x : Int) := hsk
        have hs0 := hFo.s 0 (by decide)
        have hs1 := hFo.s 1 (by decide)
        have hlg9 := hFo.lg
        obtain ⟨s', hs'⟩ : ∃ s' : Nat → Int, s' = fun j => if j = x then w2.s j + sLn s else w2.s j := ⟨_, rfl⟩
        have hF2 : FqU.Fair cf lg ⟨s', r2, fun j => if j = x then m j - 1 else m j⟩ (deqF v1 0 []).2 := by rw [hs']; exact hF2
        have hs'b : ∀ j, j < 2 → 0 ≤ s' j ∧ s' j ≤ 9000 * (k + 1) := fun j hj => by
          have := hFo.s j hj
          rw [hs']
          dsimp only
          split
          · rename_i e
            have := hlg (by omega)
            omega
          · omega
        have h : Own w0 S R w (blk n33 (Ks.mk KS s) ^ que b (deqF v1 0 []).2 ^ blk n7 (pL g) ^ blk n8 (pL w2.s) ^ blk n1 (Ks.mk KC cf) ^ rarr o KI z1 ^ rarr a KI z2 ^ rarr a' KI z3) := h.fin
        refine w_join h (fun _ => que b (deqF v1 0 []).2 ^ blk n7 (pL g) ^ blk n8 (pL s') ^ blk n1 (Ks.mk KC cf) ^ rarr o KI z1 ^ rarr a KI z2 ^ rarr a' KI z3) (fun _ => True) (fun _ w _ h => ?_) ?_
        · refine ⟨by decide, w_ld h rfl ⟨by decide, w_ld h rfl ⟨by decide, w_ld h rfl ⟨by decide, w_ld h rfl ?_⟩⟩⟩⟩
          refine w_ld h rfl (w_ld h rfl (w_ld h rfl ?_))
          have b0 := hs'b 0 (by decide)
          have b1 := hs'b 1 (by decide)
          have hbd := hF2.bound (by show 0 < if 0 = x then m 0 - 1 else m 0; split <;> omega) (by show 0 < if 1 = x then m 1 - 1 else m 1; split <;> omega)
          have hl0 := hF2.lg0
          have q1 := hc.q
          have q2 := hc.f
          obtain ⟨mx, hmx⟩ : ∃ mx, mx = if cF cf > cQ cf then cF cf else cQ cf := ⟨_, rfl⟩
          have hmxb : 100 ≤ mx ∧ mx ≤ 65536 := by rw [hmx]; split <;> omega
          obtain ⟨df, hdf⟩ : ∃ df, df = (if s' 1 > s' 0 then s' 1 else s' 0) - (if s' 1 < s' 0 then s' 1 else s' 0) := ⟨_, rfl⟩
          have hdb : 0 ≤ df ∧ df ≤ 9000 * (k + 1) := by rw [hdf]; (repeat' split) <;> omega
          rw [← hmx] at hbd
          have hbd : df ≤ cQ cf + 2 * mx + 2 * lg := by rw [hdf]; exact hbd
          refine w_ite (fun c => ?_) fun _ => ?_
          · exfalso
            have c := of_decide_eq_true c
            have c : IntKind.i64.wrap ((if s' 1 > s' 0 then s' 1 else s' 0) - (if s' 1 < s' 0 then s' 1 else s' 0)) > IntKind.i64.wrap (IntKind.i64.wrap (cQ cf + IntKind.i64.wrap (2 * (if cF cf > cQ cf then cF cf else cQ cf))) + IntKind.i64.wrap (2 * lg)) := c
            rw [← hdf, ← hmx, wi (n := 2 * mx) (by omega) (by omega), wi (n := 2 * lg) (by omega) (by omega), wi (n := cQ cf + 2 * mx) (by omega) (by omega), wi (n := cQ cf + 2 * mx + 2 * lg) (by omega) (by omega), wi (n := df) (by omega) (by omega)] at c
            omega
          · rw [hwk]
            have hPn : Fo cf lg (k + 1) 0 0 ⟨s', r2, fun j => if j = x then m j - 1 else m j⟩ (deqF v1 0 []).2 g := by
              refine ⟨hF2, fun q hq => ?_, fun q _ hq => absurd hq (by omega), fun q hq => ?_, hs'b, hlg9⟩
              · show (if q = x then m q - 1 else m q) ≤ 3
                have : q = 0 ∨ q = 1 := by omega
                rcases this with rfl | rfl <;> split <;> omega
              · have := hFo.g q hq
                refine ⟨this.1, ?_⟩
                have := this.2
                rw [if_pos hq] at this
                (repeat' split) <;> omega
            have h := h.inq (f := fun x : W3 => que b x.2.1 ^ blk n7 (pL x.2.2) ^ blk n8 (pL x.1.s)) (φ := fun q : W3 => Fo cf lg (k + 1) 0 0 q.1 q.2.1 q.2.2) (⟨s', r2, fun j => if j = x then m j - 1 else m j⟩, (deqF v1 0 []).2, g) hPn
            exact ⟨⟨⟨by show 0 ≤ k + 1; omega, by show k + 1 ≤ n; omega⟩, h.fin⟩, by show (n - (k + 1)).toNat < (n - k).toNat; omega⟩
        · refine w_join h (fun _ => blk n33 (Ks.mk KS s) ^ que b (deqF v1 0 []).2 ^ blk n7 (pL g) ^ blk n8 (pL w2.s) ^ blk n1 (Ks.mk KC cf) ^ rarr o KI z1 ^ rarr a KI z2 ^ rarr a' KI z3) (fun y : Bool => y = true ↔ x < 2) (fun (y : Bool) w hy h => ?_) ?_
          · refine w_ite (fun c => ?_) fun c => ?_
            · have hx2 := hy.1 c
              have hsx := hFo.s x hx2
              have hsl := hlg hx2
              have hww : IntKind.i64.wrap (w2.s x + sLn s) = w2.s x + sLn s := wi (by omega) (by omega)
              have hup : upd (pL w2.s) (0 + x * 1) [.int .i64 (w2.s x + sLn s)] = pL s' := by
                rw [pL_up w2.s hx2, hs']
                have : x = 0 ∨ x = 1 := by omega
                rcases this with rfl | rfl <;> rfl
              refine w_drw h fun w h => w_ld h rfl (w_ld h rfl (w_ld h rfl ?_))
              rw [hsk2]
              refine ⟨by omega, ?_⟩
              rw [Int.toNat_natCast]
              refine w_ld h (pL_at w2.s hx2) ⟨by omega, ?_⟩
              rw [show IntKind.i64.wrap (w2.s x + s.2.2.1) = w2.s x + sLn s from hww]
              refine w_setTo h n8 (pL s') rfl (by exact pL_ble hx2) hup fun w h => ?_
              exact ⟨trivial, h.fin⟩
            · have hx2 : ¬ x < 2 := fun z => by rw [hy.2 z] at c; cases c
              have h := h.blkEq (b := n8) (L' := pL s') (by rw [hs']; show [Lf.int .i64 (w2.s 0), Lf.int .i64 (w2.s 1)] = [Lf.int .i64 (if 0 = x then w2.s 0 + sLn s else w2.s 0), Lf.int .i64 (if 1 = x then w2.s 1 + sLn s else w2.s 1)]; rw [if_neg (by omega), if_neg (by omega)])
              exact ⟨trivial, h.fin⟩
          · refine w_ld h rfl ?_
            rw [hsk2]
            refine w_ite (fun c => ?_) fun c => ?_
            · have c : (x : Int) < 2 := by simpa using c
              refine w_ld h rfl ⟨?_, h⟩
              rw [hsk2]
              show decide ((x : Int) ≥ 0) = true ↔ _
              rw [decide_eq_true_eq]
              exact ⟨fun _ => by omega, fun _ => by omega⟩
            · have c : ¬ (x : Int) < 2 := by simpa using c
              exact ⟨⟨fun z => (by cases z), fun z => (by omega)⟩, h⟩
      · refine w_ite (fun c => ?_) fun c => ⟨trivial, h⟩
        have c : (decide (k ≥ st) && decide (k < ((a'.len : Nat) : Int))) = true := c
        rw [Bool.and_eq_true, decide_eq_true_eq, decide_eq_true_eq] at c
        obtain ⟨⟨m, v1⟩, ⟨⟨hq0, hq1⟩, hF1⟩, h⟩ := h.outq
        dsimp only at hq0 hq1 hF1 h
        obtain ⟨x, hx⟩ : ∃ x, z3[k.toNat]? = some x := ⟨_, List.getElem?_eq_getElem (by omega)⟩
        refine w_drw h fun w h => w_idx (s := a') h hk.1 (by omega) (w_ldE h a' k.toNat hx rfl ?_)
        refine w_callvL (Tri.g (f := N_canterlaw20_FqFair_c1) (args := [.lf (.sl a'), .lf (.int .i64 k)]) (caps := []) (pick_tri a' z3 k hk.1)).v h fun (r30 : Int) w h => ?_
        obtain ⟨hr30, h⟩ := h.purP
        have hr30 : 1 ≤ r30 ∧ r30 ≤ 9000 := hr30
        refine w_chkA h a' k.toNat 0 x hx rfl (by decide) rfl ?_
        have hm6 := modr x (m := 6) (by decide) (by decide)
        have hw6 : IntKind.i64.wrap (2 + IntKind.i64.wrap ((IntKind.u64.wrap x).tmod 6)) = 2 + IntKind.i64.wrap ((IntKind.u64.wrap x).tmod 6) := wi (by omega) (by omega)
        rw [hw6]
        obtain ⟨q, hq⟩ : ∃ q : Nat, 2 + IntKind.i64.wrap ((IntKind.u64.wrap x).tmod 6) = (q : Int) := ⟨(2 + IntKind.i64.wrap ((IntKind.u64.wrap x).tmod 6)).toNat, by omega⟩
        rw [hq]
        refine w_call (enq_tri b v1 hF1.ok ((q : Int), 0, r30, 0, false) 0 ⟨u0, u0⟩ u0) h fun r w h => ?_
        obtain ⟨_, h⟩ := h.purP
        obtain ⟨m', hm', hF'⟩ := (fair_enq hF1 (i := q) (by omega) (s := ((q : Int), 0, r30, 0, false)) rfl (show 1 ≤ (r30 : Int) ∧ (r30 : Int) ≤ 65536 by omega) u0 rfl (Int.le_refl lg) (fun z => by omega) (fun z => by omega)).2 (by omega)
        have h := h.inq (f := fun x : (Nat → Nat) × Qm => que b x.2) (φ := fun x => (x.1 0 = 3 ∧ x.1 1 = 3) ∧ FqU.Fair cf lg ⟨w2.s, w2.r, x.1⟩ x.2) (m', (enqF v1 ((q : Int), 0, r30, 0, false) 0).2) ⟨⟨by show m' 0 = 3; rw [hm' 0 (by decide)]; exact hq0, by show m' 1 = 3; rw [hm' 1 (by decide)]; exact hq1⟩, hF'⟩
        exact ⟨trivial, h.fin⟩
end FqV

end Go.X
