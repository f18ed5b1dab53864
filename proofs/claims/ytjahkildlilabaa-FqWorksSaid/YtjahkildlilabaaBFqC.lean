/- Contracts and plain facts: FqC. -/
import Derived.Test.YtjahkildlilabaaBPlain
import Derived.Test.YtjahkildlilabaaBArith
import Derived.Test.YtjahkildlilabaaBArithC
import Derived.Test.YtjahkildlilabaaBLists
import Derived.Test.YtjahkildlilabaaBTreeM
import Derived.Test.YtjahkildlilabaaBTreeN
import Derived.Test.YtjahkildlilabaaBTreeA
import Derived.Test.YtjahkildlilabaaBTreeB
import Derived.Test.YtjahkildlilabaaBTreeC
import Derived.Test.YtjahkildlilabaaBTreeD
import Derived.Test.YtjahkildlilabaaBTreeE
import Derived.Test.YtjahkildlilabaaBTreeF
import Derived.Test.YtjahkildlilabaaBFqM
import Derived.Test.YtjahkildlilabaaXw
import Derived.Test.YtjahkildlilabaaK
import Derived.Test.YtjahkildlilabaaF0
import Derived.Test.YtjahkildlilabaaF1
set_option linter.unusedVariables false
set_option linter.unusedSimpArgs false
set_option linter.unusedSectionVars false
namespace Go.X
open Go.Proofs
namespace FqC
open Arith ArithC Lists _root_.Go.X.Tree TreeC TreeD TreeE TreeF FqM
/-! ### Plain parts -/
theorem delay_tri (n r : Int) (hn : n < 9223372036854775808) (hr : U r) : Tri Try.prog N_delay_Of [.lf (.int .i64 n), .lf (.int .u64 r)] [.lf (.int .u64)] emp (fun x => pur (x = delayI n r) emp) :=
  tri_0 (call_delay_Of n r) fun w0 S R h => by
    unfold W_delay_Of delayI
    refine w_ite (fun c => ?_) fun c => ?_
    · have c : n < 1 ∨ r = 18446744073709551615 := by simpa using c
      rw [if_pos c]; exact Own.retP rfl h
    have c : ¬ (n < 1 ∨ r = 18446744073709551615) := by simpa using c
    rw [if_neg c, wu (n := n) (by omega) (by omega)]
    refine w_call (md_tri n 1000000000 r ⟨by omega, by omega⟩ (U_lit _) hr) h fun x w h => ?_
    obtain ⟨hx, h⟩ := h.purP; rw [hx]
    exact Own.retP rfl h.emp'
theorem U_delay {n r : Int} (hn : n < 9223372036854775808) (hr : U r) : U (delayI n r) := by
  unfold delayI
  split
  · exact U_lit 0
  · rename_i c
    have h := U_md (a := n) (b := 1000000000) (c := r) ⟨by omega, by omega⟩ (U_lit _) hr
    split
    · exact U_lit _
    · exact h
theorem U_less {a b : Int} (ha : U a) (hb : U b) : U (lessI a b) := by unfold lessI U at *; (repeat' split) <;> omega
theorem less_tri (a b : Int) (ha : U a) (hb : U b) : Tri Try.prog N_delay_Lesser [.lf (.int .u64 a), .lf (.int .u64 b)] [.lf (.int .u64)] emp (fun x => pur (x = lessI a b) emp) :=
  tri_0 (call_delay_Lesser a b) fun w0 S R h => by
    unfold W_delay_Lesser
    have e1 : IntKind.i64.wrap ((0:Int) + 1) = 1 := rfl
    have e2 : IntKind.i64.wrap ((1:Int) + 1) = 2 := rfl
    obtain ⟨a', ha'⟩ : ∃ a', a' = if a = 0 then 18446744073709551615 else a := ⟨_, rfl⟩
    refine w_loop (fun _ : Int × Int => emp) (fun y : Int × Int => y = (18446744073709551615, 0) ∨ y = (a', 1) ∨ y = (lessI a b, 2)) (fun y : Int × Int => (2 - y.2).toNat) h (.inl rfl) ?_
    rintro (y : Int × Int) w hy h
    rcases hy with rfl | rfl | rfl
    · refine w_ite (fun _ => ?_) fun c => (by cases c)
      refine ⟨by decide, (a : Int), rfl, ?_⟩
      dsimp only
      rw [e1]
      refine w_ite (fun c => ?_) fun c => ?_
      · have c : a = 0 := by simpa using c
        rw [if_pos c] at ha'
        exact ⟨⟨.inr (.inl (by rw [ha'])), h⟩, by show (2 - (1:Int)).toNat < (2 - (0:Int)).toNat; omega⟩
      · have c : ¬ a = 0 := by simpa using c
        rw [if_neg c] at ha'
        refine ⟨⟨.inr (.inl ?_), h⟩, by show (2 - (1:Int)).toNat < (2 - (0:Int)).toNat; omega⟩
        unfold U at ha
        rw [ha']
        refine Prod.ext ?_ rfl
        show (if a < _ then a else _) = a
        split <;> omega
    · refine w_ite (fun _ => ?_) fun c => (by cases c)
      refine ⟨⟨by show (0:Int) ≤ 1; decide, by show (1:Int) < 2; decide⟩, (b : Int), rfl, ?_⟩
      dsimp only
      rw [e2]
      unfold U at ha hb
      refine w_ite (fun c => ?_) fun c => ?_
      · have c : b = 0 := by simpa using c
        refine ⟨⟨.inr (.inr ?_), h⟩, by show (2 - (2:Int)).toNat < (2 - (1:Int)).toNat; omega⟩
        refine Prod.ext ?_ rfl
        show a' = lessI a b
        unfold lessI
        rw [← ha', if_pos c]
        have : a' ≤ 18446744073709551615 := by rw [ha']; split <;> omega
        split <;> omega
      · have c : ¬ b = 0 := by simpa using c
        refine ⟨⟨.inr (.inr ?_), h⟩, by show (2 - (2:Int)).toNat < (2 - (1:Int)).toNat; omega⟩
        refine Prod.ext ?_ rfl
        show (if b < a' then b else a') = lessI a b
        unfold lessI
        rw [← ha', if_neg c]
    · refine w_ite (fun c => (by cases c)) fun _ => ?_
      exact Own.retP rfl h
theorem within_tri (v lo hi : Int) : Tri Try.prog N_fq_within [.lf (.int .i64 v), .lf (.int .i64 lo), .lf (.int .i64 hi)] [.lf .bool] emp (fun r => pur (r = decide (lo ≤ v ∧ v ≤ hi)) emp) :=
  tri_0 (call_fq_within v lo hi) fun w0 S R h => by
    unfold W_fq_within
    refine Own.retP ?_ h
    rw [Bool.eq_iff_iff]; simp
theorem may_tri (c : Cf) : Tri Try.prog N_fq_May [.agg (Ks.mk KC c)] [.lf .bool] emp (fun r => pur (r = may c) emp) :=
  tri_0 (call_fq_May c) fun w0 S R h => by
    unfold W_fq_May may
    refine w_new h fun n1 w h => w_ld h rfl (w_call (within_tri _ _ _) h fun r w h => ?_)
    obtain ⟨hr, h⟩ := h.purP; rw [hr]
    refine w_ite (fun c1 => ?_) fun c1 => ?_
    case _ =>
      refine w_ld h rfl (w_call (within_tri _ _ _) h fun r w h => ?_)
      obtain ⟨hr, h⟩ := h.purP; rw [hr]
      refine w_ite (fun c2 => ?_) fun c2 => ?_
      case _ =>
        refine w_ld h rfl (w_call (within_tri _ _ _) h fun r w h => ?_)
        obtain ⟨hr, h⟩ := h.purP; rw [hr]
        refine w_ite (fun c3 => ?_) fun c3 => ?_
        case _ =>
          refine w_ld h rfl (w_call (within_tri _ _ _) h fun r w h => ?_)
          obtain ⟨hr, h⟩ := h.purP; rw [hr]
          refine w_ite (fun c4 => ?_) fun c4 => ?_
          case _ =>
            refine w_ld h rfl (w_ite (fun c5 => ?_) fun c5 => ?_)
            case _ =>
              refine w_ld h rfl (w_call (within_tri _ _ _) h fun r w h => ?_)
              obtain ⟨hr, h⟩ := h.purP; rw [hr]
              refine w_ite (fun c6 => ?_) fun c6 => ?_
              case _ =>
                refine w_ld h rfl (w_call (within_tri _ _ _) h fun r w h => ?_)
                obtain ⟨hr, h⟩ := h.purP; rw [hr]
                refine Own.retP ?_ h.emp'
                rw [c1, c2, c3, c4, c5, c6]; rfl
              case _ => exact Own.retP (by rw [c1, c2, c3, c4, c5, c6]; rfl) h.emp'
            case _ => exact Own.retP (by rw [c1, c2, c3, c4, c5]; rfl) h.emp'
          case _ => exact Own.retP (by rw [c1, c2, c3, c4]; rfl) h.emp'
        case _ => exact Own.retP (by rw [c1, c2, c3]; rfl) h.emp'
      case _ => exact Own.retP (by rw [c1, c2]; rfl) h.emp'
    case _ => exact Own.retP (by rw [c1]; rfl) h.emp'
theorem nil' {w0 w : World} {S0 R0 : Nat → Prop} {F : SP} (h : Own w0 S0 R0 w F) (s : Sl) (K : Ks) (hl : s.len = 0) (hc : s.cap = 0) : Own w0 S0 R0 w (arr s K [] ^ F) := by
  have h := h.le ((star_emp F).trans (star_comm _ _))
  obtain ⟨S, R, _, _, h2⟩ := h.part
  exact h2 w (arr s K []) (fun _ => False) (fun _ => False) (Ext.refl _ _) ⟨⟨.inl ⟨hl, hc, rfl⟩, hl⟩, fun k => ⟨fun h => h.elim, fun ⟨q, _, _, hq⟩ => absurd hc hq⟩, fun _ h => h⟩ (fun _ h => h.elim) (fun _ h => h.elim)
theorem clone_tri (s : Sl) (xs : List Sg) (hl : xs.length ≤ 4294967296) : Tri Try.prog N_slices_Clone_sapiSegapiSeg [.lf (.sl s)] [.lf .sl] (emp ^ rarr s KS xs) (fun r => arr r KS xs) :=
  tri_0 (call_slices_Clone_sapiSegapiSeg s) fun w0 S R h => by
    unfold W_slices_Clone_sapiSegapiSeg
    have h : Own w0 S R w0 (rarr s KS xs ^ emp) := h.fin
    have hs := (h.rd (s := s)).2
    have hn := (h.rd (s := s)).1.2.1
    refine w_ite (fun c => ?_) fun _ => ?_
    · have hp : s.p = none := by
        simp only [Sl.isNil, Bool.and_eq_true, Option.isNone_iff_eq_none] at c
        exact c.1
      have hx : xs = [] := List.eq_nil_of_length_eq_zero (by rw [← hs]; exact hn hp)
      rw [hx]
      exact (h.nil KS).keep
    · refine w_new h fun n1 w h => ?_
      have h := nil' h ⟨some ⟨n1, 0⟩, 0, 0⟩ KS rfl rfl
      refine w_app (s := ⟨some ⟨n1, 0⟩, 0, 0⟩) (x := s) h rfl (by simpa using hl) fun s2 w _ h => ?_
      exact h.keep
/-! ### The queue in memory -/
def bigS (f : Nat → SP) : Nat → SP
  | 0 => emp
  | n + 1 => f n ^ bigS f n
def but (f : Nat → SP) (i : Nat) : Nat → SP := fun j => if j = i then emp else f j
theorem bigS_congr {f g : Nat → SP} : ∀ n, (∀ j, j < n → f j = g j) → bigS f n = bigS g n
  | 0, _ => rfl
  | n + 1, h => by rw [bigS, bigS, h n (by omega), bigS_congr n fun j hj => h j (by omega)]
theorem emp_star (p : SP) : Le (emp ^ p) p := by
  rintro w S R ⟨S1, R1, S2, R2, h1, h2, hS, hR, _⟩
  have e1 : S = S2 := funext fun k => propext ((hS k).trans ⟨fun h => h.elim (fun h => absurd h (h1.1 k)) id, .inr⟩)
  have e2 : R = R2 := funext fun k => propext ((hR k).trans ⟨fun h => h.elim (fun h => absurd h (h1.2 k)) id, .inr⟩)
  rw [e1, e2]; exact h2
theorem big_out (f : Nat → SP) : ∀ {n i : Nat}, i < n → Le (bigS f n) (f i ^ bigS (but f i) n)
  | n + 1, i, h => by
    by_cases e : i = n
    · subst e
      have e1 : bigS (but f i) (i + 1) = emp ^ bigS f i := by
        rw [bigS, bigS_congr (f := but f i) (g := f) i fun j hj => by simp [but, show j ≠ i by omega]]
        simp [but]
      rw [e1]
      exact star_mono Le.rfl ((star_emp _).trans (star_comm _ _))
    · have := big_out f (n := n) (i := i) (by omega)
      have e1 : bigS (but f i) (n + 1) = f n ^ bigS (but f i) n := by rw [bigS]; simp [but, Ne.symm e]
      rw [e1]
      exact (star_mono Le.rfl this).trans (star_swap _ _ _)
theorem big_in (f : Nat → SP) : ∀ {n i : Nat}, i < n → Le (f i ^ bigS (but f i) n) (bigS f n)
  | n + 1, i, h => by
    by_cases e : i = n
    · subst e
      have e1 : bigS (but f i) (i + 1) = emp ^ bigS f i := by
        rw [bigS, bigS_congr (f := but f i) (g := f) i fun j hj => by simp [but, show j ≠ i by omega]]
        simp [but]
      rw [e1]
      exact star_mono Le.rfl (emp_star _)
    · have := big_in f (n := n) (i := i) (by omega)
      have e1 : bigS (but f i) (n + 1) = f n ^ bigS (but f i) n := by rw [bigS]; simp [but, Ne.symm e]
      rw [e1]
      exact (star_swap _ _ _).trans (star_mono Le.rfl this)
abbrev qL (c : Cf) (p : Nat → Option Pt) (l w : Nat) (n : Int) : List Lf := [.int .i64 (cQ c), .int .i64 (cF c), .int .i64 (cL c), .int .i64 (cW c), .int .u64 (cH c), .int .u64 (cR c), .bool (cD c), .int .i64 (cCap c), .int .i64 (cMss c), .ptr (p 0), .ptr (p 1), .ptr (p 2), .ptr (p 3), .ptr (p 4), .ptr (p 5), .ptr (p 6), .ptr (p 7), .ptr (some ⟨l, 0⟩), .ptr (some ⟨w, 0⟩), .int .i64 n]
theorem qL_at (c : Cf) (p : Nat → Option Pt) (l w : Nat) (n : Int) (i : Nat) (hi : i < 8) : Ks.un [.ptr] (((qL c p l w n).drop (0 + 9 + i * 1)).take 1) = some (p i) := by
  have : i = 0 ∨ i = 1 ∨ i = 2 ∨ i = 3 ∨ i = 4 ∨ i = 5 ∨ i = 6 ∨ i = 7 := by omega
  rcases this with rfl | rfl | rfl | rfl | rfl | rfl | rfl | rfl <;> rfl
def upP (p : Nat → Option Pt) (i : Nat) (x : Option Pt) : Nat → Option Pt := fun j => if j = i then x else p j
theorem upP_same (p : Nat → Option Pt) (i : Nat) (x : Option Pt) : upP p i x i = x := by simp [upP]
theorem upP_ne (p : Nat → Option Pt) {i j : Nat} (x : Option Pt) (h : j ≠ i) : upP p i x j = p j := by simp [upP, h]
theorem qL_up (c : Cf) (p : Nat → Option Pt) (l w : Nat) (n : Int) (i : Nat) (hi : i < 8) (x : Option Pt) : upd (qL c p l w n) (0 + 9 + i * 1) [.ptr x] = qL c (upP p i x) l w n := by
  have : i = 0 ∨ i = 1 ∨ i = 2 ∨ i = 3 ∨ i = 4 ∨ i = 5 ∨ i = 6 ∨ i = 7 := by omega
  rcases this with rfl | rfl | rfl | rfl | rfl | rfl | rfl | rfl <;> rfl
def flow (a : Nat) (f : Fl) : SP := ex fun s : Sl => blk a [.int .i64 f.cr, .int .u64 f.nx, .int .u64 f.si, .sl s] ^ arr s KS f.sg
instance (a : Nat) (f : Fl) : NoR (flow a f) := by unfold flow; infer_instance
def flowP (p : Option Pt) (x : Option Fl) : SP := match x with
  | none => pur (p = none) emp
  | some f => ex fun a : Nat => pur (p = some ⟨a, 0⟩) (flow a f)
instance (p : Option Pt) (x : Option Fl) : NoR (flowP p x) := by unfold flowP; split <;> infer_instance
theorem bigNoR (f : Nat → SP) (h : ∀ j, NoR (f j)) : ∀ n, NoR (bigS f n)
  | 0 => by unfold bigS; infer_instance
  | n + 1 => by have := bigNoR f h n; unfold bigS; infer_instance
instance (f : Nat → SP) [h : ∀ j, NoR (f j)] (n : Nat) : NoR (bigS f n) := bigNoR f h n
abbrev fls (p : Nat → Option Pt) (fl : Nat → Option Fl) : Nat → SP := fun j => flowP (p j) (fl j)
abbrev All8 (p : Nat → Option Pt) (fl : Nat → Option Fl) : SP := bigS (fls p fl) 8
abbrev But8 (p : Nat → Option Pt) (fl : Nat → Option Fl) (i : Nat) : SP := bigS (but (fls p fl) i) 8
def que (b : Nat) (v : Qm) : SP := ex fun x : (Nat → Option Pt) × Nat × Nat => blk b (qL v.c x.1 x.2.1 x.2.2 v.n) ^ lst x.2.1 v.lv ^ tree 8 x.2.2 v.ks ^ All8 x.1 v.fl
instance (b : Nat) (v : Qm) : NoR (que b v) := by unfold que; infer_instance
section
variable {w0 w : World} {S0 R0 : Nat → Prop} {F G : SP}
theorem _root_.Go.X.Own.flow (h : Own w0 S0 R0 w F) (a : Nat) {f : Fl} [tk : TakeK FqC.flow a F f G] : ∃ s : Sl, Own w0 S0 R0 w (blk a [.int .i64 f.cr, .int .u64 f.nx, .int .u64 f.si, .sl s] ^ arr s KS f.sg ^ G) := by
  obtain ⟨s, h⟩ := (h.le tk.le).exP
  exact ⟨s, h.fin⟩
theorem _root_.Go.X.Own.mkFlow (h : Own w0 S0 R0 w F) (a : Nat) (s : Sl) (f : Fl) [tk : Take (blk a [.int .i64 f.cr, .int .u64 f.nx, .int .u64 f.si, .sl s] ^ arr s KS f.sg) F G] : Own w0 S0 R0 w (FqC.flow a f ^ G) :=
  Own.toEx (f := fun s : Sl => blk a [.int .i64 f.cr, .int .u64 f.nx, .int .u64 f.si, .sl s] ^ arr s KS f.sg) s (h.le tk.le)
theorem _root_.Go.X.Own.mkFl (h : Own w0 S0 R0 w F) (a : Nat) (s : Sl) (cr nx si : Int) (sg : List Sg) (f : Fl) (hf : f = ⟨cr, nx, si, sg⟩) [tk : Take (blk a [.int .i64 cr, .int .u64 nx, .int .u64 si, .sl s] ^ arr s KS sg) F G] : Own w0 S0 R0 w (FqC.flow a f ^ G) := by
  rw [hf]
  exact h.mkFlow a s ⟨cr, nx, si, sg⟩ (tk := tk)
theorem _root_.Go.X.Own.que (h : Own w0 S0 R0 w F) (b : Nat) {v : Qm} [tk : TakeK FqC.que b F v G] : ∃ (p : Nat → Option Pt) (l t : Nat), Own w0 S0 R0 w (blk b (qL v.c p l t v.n) ^ lst l v.lv ^ tree 8 t v.ks ^ All8 p v.fl ^ G) := by
  obtain ⟨s, h⟩ := (h.le tk.le).exP
  exact ⟨s.1, s.2.1, s.2.2, h.fin⟩
theorem _root_.Go.X.Own.mkQue (h : Own w0 S0 R0 w F) (b : Nat) (p : Nat → Option Pt) (l t : Nat) (v : Qm) [tk : Take (blk b (qL v.c p l t v.n) ^ lst l v.lv ^ tree 8 t v.ks ^ All8 p v.fl) F G] : Own w0 S0 R0 w (FqC.que b v ^ G) :=
  Own.toEx (f := fun x : (Nat → Option Pt) × Nat × Nat => blk b (qL v.c x.1 x.2.1 x.2.2 v.n) ^ lst x.2.1 v.lv ^ tree 8 x.2.2 v.ks ^ All8 x.1 v.fl) (p, l, t) (h.le tk.le)
/-- One flow is taken out. -/
theorem _root_.Go.X.Own.outF (h : Own w0 S0 R0 w F) (p : Nat → Option Pt) (fl : Nat → Option Fl) {i : Nat} (hi : i < 8) {f : Fl} (hf : fl i = some f) [tk : Take (All8 p fl) F G] : ∃ a, p i = some ⟨a, 0⟩ ∧ Own w0 S0 R0 w (FqC.flow a f ^ But8 p fl i ^ G) := by
  have h : Own w0 S0 R0 w ((flowP (p i) (fl i) ^ But8 p fl i) ^ G) := (h.le tk.le).le (star_mono (big_out _ hi) Le.rfl)
  have h := h.le (star_assoc _ _ _)
  rw [hf] at h
  obtain ⟨a, h⟩ := Own.exP (f := fun a : Nat => pur (p i = some ⟨a, 0⟩) (FqC.flow a f)) h
  obtain ⟨hp, h⟩ := h.purP
  exact ⟨a, hp, h⟩
theorem _root_.Go.X.Own.noF (h : Own w0 S0 R0 w F) (p : Nat → Option Pt) (fl : Nat → Option Fl) {i : Nat} (hi : i < 8) (hf : fl i = none) [tk : Take (All8 p fl) F G] : p i = none ∧ Own w0 S0 R0 w (But8 p fl i ^ G) := by
  have h : Own w0 S0 R0 w ((flowP (p i) (fl i) ^ But8 p fl i) ^ G) := (h.le tk.le).le (star_mono (big_out _ hi) Le.rfl)
  have h := h.le (star_assoc _ _ _)
  rw [hf] at h
  obtain ⟨hp, h⟩ := Own.purP (p := p i = none) (A := emp) h
  exact ⟨hp, h.drop⟩
theorem but_eq (p q : Nat → Option Pt) (fl gl : Nat → Option Fl) (i : Nat) (hp : ∀ j, j ≠ i → q j = p j) (hf : ∀ j, j ≠ i → gl j = fl j) : But8 q gl i = But8 p fl i := bigS_congr 8 fun j _ => by
  unfold but
  split
  · rfl
  · rename_i e; show flowP _ _ = flowP _ _; rw [hp j e, hf j e]
theorem _root_.Go.X.Own.inF (h : Own w0 S0 R0 w F) (p : Nat → Option Pt) (fl : Nat → Option Fl) {i : Nat} (hi : i < 8) (q : Nat → Option Pt) (gl : Nat → Option Fl) (a : Nat) (f : Fl) (hp : ∀ j, j ≠ i → q j = p j) (hf : ∀ j, j ≠ i → gl j = fl j) (hq : q i = some ⟨a, 0⟩) (hg : gl i = some f) [tk : Take (FqC.flow a f ^ But8 p fl i) F G] : Own w0 S0 R0 w (All8 q gl ^ G) := by
  have h := (h.le tk.le).le (star_assoc _ _ _)
  have h : Own w0 S0 R0 w (flowP (q i) (gl i) ^ But8 p fl i ^ G) := by
    rw [hg]
    exact Own.toEx (f := fun a : Nat => pur (q i = some ⟨a, 0⟩) (FqC.flow a f)) a (Own.toPur hq h)
  rw [← but_eq p q fl gl i hp hf] at h
  exact (h.le (star_assoc' _ _ _)).le (star_mono (big_in (fls q gl) hi) Le.rfl)
theorem _root_.Go.X.Own.inN (h : Own w0 S0 R0 w F) (p : Nat → Option Pt) (fl : Nat → Option Fl) {i : Nat} (hi : i < 8) (q : Nat → Option Pt) (gl : Nat → Option Fl) (hp : ∀ j, j ≠ i → q j = p j) (hf : ∀ j, j ≠ i → gl j = fl j) (hq : q i = none) (hg : gl i = none) [tk : Take (But8 p fl i) F G] : Own w0 S0 R0 w (All8 q gl ^ G) := by
  have h := (h.le tk.le)
  have h : Own w0 S0 R0 w (flowP (q i) (gl i) ^ But8 p fl i ^ G) := by
    rw [hg]
    exact Own.toPur (p := q i = none) (A := emp) hq (h.le ((star_emp _).trans (star_comm _ _)))
  rw [← but_eq p q fl gl i hp hf] at h
  exact (h.le (star_assoc' _ _ _)).le (star_mono (big_in (fls q gl) hi) Le.rfl)
theorem isN (h : Own w0 S0 R0 w F) (p : Nat → Option Pt) (fl : Nat → Option Fl) {i : Nat} (hi : i < 8) [tk : Take (All8 p fl) F G] : (p i).isNone = (fl i).isNone := by
  cases hf : fl i with
  | none => rw [(h.noF p fl hi hf).1]; rfl
  | some f => obtain ⟨a, ha, _⟩ := h.outF p fl hi hf; rw [ha]; rfl
end
end FqC

end Go.X
