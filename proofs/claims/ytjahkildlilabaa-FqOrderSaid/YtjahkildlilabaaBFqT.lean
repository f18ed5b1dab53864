/- Contracts and plain facts: FqT. -/
import Derived.Test.YtjahkildlilabaaBPlain
import Derived.Test.YtjahkildlilabaaBArith
import Derived.Test.YtjahkildlilabaaBArithC
import Derived.Test.YtjahkildlilabaaBU64s
import Derived.Test.YtjahkildlilabaaBLists
import Derived.Test.YtjahkildlilabaaBTreeM
import Derived.Test.YtjahkildlilabaaBTreeN
import Derived.Test.YtjahkildlilabaaBTreeA
import Derived.Test.YtjahkildlilabaaBTreeB
import Derived.Test.YtjahkildlilabaaBTreeC
import Derived.Test.YtjahkildlilabaaBTreeD
import Derived.Test.YtjahkildlilabaaBTreeE
import Derived.Test.YtjahkildlilabaaBTreeF
import Derived.Test.YtjahkildlilabaaBFqM
import Derived.Test.YtjahkildlilabaaBFqC
import Derived.Test.YtjahkildlilabaaBFqD
import Derived.Test.YtjahkildlilabaaBFqE
import Derived.Test.YtjahkildlilabaaBFqG
import Derived.Test.YtjahkildlilabaaBFqH
import Derived.Test.YtjahkildlilabaaBFqI
import Derived.Test.YtjahkildlilabaaBFqK
import Derived.Test.YtjahkildlilabaaBFqN
import Derived.Test.YtjahkildlilabaaBFqQ
import Derived.Test.YtjahkildlilabaaBFqR
import Derived.Test.YtjahkildlilabaaXw
import Derived.Test.YtjahkildlilabaaK
import Derived.Test.YtjahkildlilabaaF0
import Derived.Test.YtjahkildlilabaaF1
set_option linter.unusedVariables false
set_option linter.unusedSimpArgs false
set_option linter.unusedSectionVars false
namespace Go.X
open Go.Proofs
namespace FqT
open Arith ArithC Lists _root_.Go.X.Tree TreeC TreeD TreeE TreeF FqM FqC FqD FqE FqG FqH FqI FqK FqN FqQ FqR
/-! ### What a flow has, by its numbers -/
def frs (x : Option Fl) : List Int := match x with
  | none => []
  | some f => f.sg.map sFr
def upL (g : Nat → List Int) (i : Nat) (x : List Int) : Nat → List Int := fun j => if j = i then x else g j
theorem upL_same (g : Nat → List Int) (i : Nat) (x : List Int) : upL g i x i = x := by simp [upL]
theorem upL_ne (g : Nat → List Int) {i j : Nat} (x : List Int) (h : j ≠ i) : upL g i x j = g j := by simp [upL, h]
theorem coll_frs (v : Qm) (t : Int) (j : Nat) : frs ((collectF v t).fl j) = frs (v.fl j) := by
  show frs (if _ then _ else _) = _
  split
  · rename_i e
    obtain ⟨f, hf, hs, _⟩ := idle_some e
    rw [hf]
    simp [frs, hs]
  · rfl
theorem fate_ne {v : Qm} {s : Sg} {t : Int} (h : fateF v s t ≠ 0) : fateF v s t = 2 ∨ fateF v s t = 3 ∨ fateF v s t = 4 := by
  unfold fateF at h ⊢
  split
  · exact .inl rfl
  · rename_i c1
    rw [if_neg c1] at h
    split
    · exact .inr (.inl rfl)
    · rename_i c2
      rw [if_neg c2] at h
      split
      · exact .inr (.inr rfl)
      · rename_i c3
        rw [if_neg c3] at h
        exact absurd rfl h
theorem enq_frs (v : Qm) (s : Sg) (t : Int) : ((enqF v s t).1 = (0, 0) ∧ (0 ≤ sK s ∧ sK s ≤ 7) ∧ ∀ j, frs ((enqF v s t).2.fl j) = frs (v.fl j) ++ if j = (sK s).toNat then [sFr s] else []) ∨ (((enqF v s t).1.2 == 0) && ((enqF v s t).1.1 == 0)) = false ∧ ∀ j, frs ((enqF v s t).2.fl j) = frs (v.fl j) := by
  unfold enqF
  split
  · exact .inr ⟨rfl, fun _ => rfl⟩
  · split
    · exact .inr ⟨rfl, fun _ => rfl⟩
    · rename_i hk _
      split
      · refine .inl ⟨rfl, Decidable.not_not.1 hk, fun j => ?_⟩
        dsimp only
        rw [FqM.add_eq]
        show frs (upF (collectF v t).fl (sK s).toNat _ j) = _
        by_cases e : j = (sK s).toNat
        · rw [e, upF_same, if_pos rfl]
          show ((woken (collectF v t) (sK s).toNat t).sg ++ [drawn v s t]).map sFr = _
          rw [woken_sg, List.map_append, ← coll_frs v t]
          cases (collectF v t).fl (sK s).toNat <;> rfl
        · rw [upF_ne _ _ e, if_neg e, coll_frs, List.append_nil]
      · rename_i hf
        refine .inr ⟨?_, coll_frs v t⟩
        rcases fate_ne hf with h | h | h <;> rw [h] <;> rfl
theorem same_frs {u v : Qm} (h : FqQ.Same u v) (j : Nat) : frs (v.fl j) = frs (u.fl j) := by
  have := h j
  cases hu : u.fl j with
  | none =>
    rw [hu] at this
    cases hv : v.fl j with
    | none => rfl
    | some g => rw [hv] at this; cases this
  | some f =>
    obtain ⟨g, hg, _, hs, _⟩ := h.to hu
    rw [hg]
    simp [frs, hs]
theorem deq_frs {v : Qm} (hv : OkQ v) {t : Int} (ut : U t) {rates : List Int} (hr : ∀ x ∈ rates, U x) :
    ((deqF v t rates).1 = none ∧ ∀ j, frs ((deqF v t rates).2.fl j) = frs (v.fl j)) ∨ ∃ (i : Nat) (s : Sg), (deqF v t rates).1 = some s ∧ (sK s = (i : Int) ∧ i < 8) ∧ ∀ j, frs (v.fl j) = (if j = i then [sFr s] else []) ++ frs ((deqF v t rates).2.fl j) := by
  obtain ⟨u, hu, hc⟩ := ran hv ut hr
  rcases hc with ⟨_, he⟩ | ⟨i, f, s, l, hA, hcr, hs, htf, he⟩
  · left
    rw [he]
    exact ⟨rfl, same_frs hu.same⟩
  · right
    have hF := (hu.ok.fl i f hA.fl).2
    obtain ⟨hsk, hso⟩ := hF.sg s (by rw [hs]; simp)
    rw [he]
    refine ⟨i, s, rfl, ⟨hsk, hA.lt⟩, fun j => ?_⟩
    rw [← same_frs hu.same j]
    show _ = _ ++ frs (upF u.fl i _ j)
    by_cases e : j = i
    · rw [e, upF_same, if_pos rfl, hA.fl]
      simp [frs, hs]
    · rw [upF_ne _ _ e, if_neg e]
      rfl
/-! ### Eight lists -/
abbrev sL (s : Nat → Sl) : List Lf := [.sl (s 0), .sl (s 1), .sl (s 2), .sl (s 3), .sl (s 4), .sl (s 5), .sl (s 6), .sl (s 7)]
def upS (g : Nat → Sl) (i : Nat) (x : Sl) : Nat → Sl := fun j => if j = i then x else g j
theorem sL_at (g : Nat → Sl) {i : Nat} (hi : i < 8) : Ks.un [.sl] (((sL g).drop (0 + i * 1)).take 1) = some (g i) := by
  have : i = 0 ∨ i = 1 ∨ i = 2 ∨ i = 3 ∨ i = 4 ∨ i = 5 ∨ i = 6 ∨ i = 7 := by omega
  rcases this with rfl | rfl | rfl | rfl | rfl | rfl | rfl | rfl <;> rfl
theorem sL_chk (g : Nat → Sl) {i : Nat} (hi : i < 8) : ((sL g).drop (0 + i * 1)).take 1 = [.sl (g i)] := by
  have : i = 0 ∨ i = 1 ∨ i = 2 ∨ i = 3 ∨ i = 4 ∨ i = 5 ∨ i = 6 ∨ i = 7 := by omega
  rcases this with rfl | rfl | rfl | rfl | rfl | rfl | rfl | rfl <;> rfl
theorem sL_up (g : Nat → Sl) {i : Nat} (hi : i < 8) (x : Sl) : upd (sL g) (0 + i * 1) [.sl x] = sL (upS g i x) := by
  have : i = 0 ∨ i = 1 ∨ i = 2 ∨ i = 3 ∨ i = 4 ∨ i = 5 ∨ i = 6 ∨ i = 7 := by omega
  rcases this with rfl | rfl | rfl | rfl | rfl | rfl | rfl | rfl <;> rfl
theorem sL_ble {i : Nat} (hi : i < 8) : Nat.ble (0 + i * 1 + 1) 8 = true := Nat.ble_eq_true_of_le (by omega)
abbrev arrs (s : Nat → Sl) (xs : Nat → List Int) : Nat → SP := fun j => arr (s j) KU (xs j)
def eight (n : Nat) (xs : Nat → List Int) : SP := ex fun s : Nat → Sl => blk n (sL s) ^ bigS (arrs s xs) 8
section
variable {w0 w : World} {S0 R0 : Nat → Prop} {F G : SP}
/-- One list is taken out. -/
theorem _root_.Go.X.Own.eight (h : Own w0 S0 R0 w F) (n : Nat) {xs : Nat → List Int} {i : Nat} (hi : i < 8) [tk : TakeK FqT.eight n F xs G] : ∃ s : Nat → Sl, Own w0 S0 R0 w (blk n (sL s) ^ arr (s i) KU (xs i) ^ bigS (but (arrs s xs) i) 8 ^ G) := by
  obtain ⟨s, h⟩ := (h.le tk.le).exP
  refine ⟨s, ?_⟩
  have h := h.le (star_assoc _ _ _)
  have h := h.le (star_mono Le.rfl (star_mono (big_out (arrs s xs) hi) Le.rfl))
  exact h.le (star_mono Le.rfl (star_assoc _ _ _))
theorem _root_.Go.X.Own.mkEight (h : Own w0 S0 R0 w F) (n : Nat) (s t : Nat → Sl) (xs ys : Nat → List Int) {i : Nat} (hi : i < 8) (hs : ∀ j, j ≠ i → t j = s j) (hx : ∀ j, j ≠ i → ys j = xs j) [tk : Take (blk n (sL t) ^ arr (t i) KU (ys i) ^ bigS (but (arrs s xs) i) 8) F G] : Own w0 S0 R0 w (FqT.eight n ys ^ G) := by
  have e : bigS (but (arrs s xs) i) 8 = bigS (but (arrs t ys) i) 8 := bigS_congr 8 fun j _ => by
    unfold but
    split
    · rfl
    · rename_i e; show arr _ KU _ = arr _ KU _; rw [hs j e, hx j e]
  have h := h.le tk.le
  rw [e] at h
  have h := h.le (star_mono (star_mono Le.rfl (big_in (arrs t ys) hi)) Le.rfl)
  exact Own.toEx (f := fun s : Nat → Sl => blk n (sL s) ^ bigS (arrs s ys) 8) t h
theorem _root_.Go.X.Own.newEight (h : Own w0 S0 R0 w F) (n : Nat) [tk : Take (blk n (sL fun _ => ⟨none, 0, 0⟩)) F G] : Own w0 S0 R0 w (FqT.eight n (fun _ => []) ^ G) := by
  have h := h.le tk.le
  have h8 : ∀ k, Own w0 S0 R0 w (bigS (arrs (fun _ => ⟨none, 0, 0⟩) fun _ => []) k ^ blk n (sL fun _ => ⟨none, 0, 0⟩) ^ G) := fun k => by
    induction k with
    | zero => exact h.le ((star_emp _).trans (star_comm _ _))
    | succ k ih =>
      have := ih.nil KU
      exact this.le (star_assoc' _ _ _)
  have h := (h8 8).le (star_swap _ _ _)
  have h := h.le (star_assoc' _ _ _)
  exact Own.toEx (f := fun s : Nat → Sl => blk n (sL s) ^ bigS (arrs s fun _ => []) 8) (fun _ => ⟨none, 0, 0⟩) h
end
theorem and7 {j : Nat} (h : j < 8) : IntKind.i64.wrap (BitVec.ofInt IntKind.i64.bits (j : Int) &&& BitVec.ofInt IntKind.i64.bits (7 : Int)).toNat = (j : Int) := by
  have : j = 0 ∨ j = 1 ∨ j = 2 ∨ j = 3 ∨ j = 4 ∨ j = 5 ∨ j = 6 ∨ j = 7 := by omega
  rcases this with rfl | rfl | rfl | rfl | rfl | rfl | rfl | rfl <;> decide
/-- What went in, what came out, and what is there. -/
structure Od (k : Int) (v : Qm) (g : (Nat → List Int) × (Nat → List Int)) : Prop where
  ok : OkQ v
  eq : ∀ j, g.2 j ++ frs (v.fl j) = g.1 j
  len : ∀ j, ((g.1 j).length : Int) ≤ k
theorem Od.len2 {k : Int} {v : Qm} {g : (Nat → List Int) × (Nat → List Int)} (h : Od k v g) (j : Nat) : ((g.2 j).length : Int) ≤ k ∧ ((frs (v.fl j)).length : Int) ≤ k := by
  have h1 := h.len j
  rw [← h.eq j, List.length_append] at h1
  omega
theorem order_tri (d : Cf) (o : Sl) (ps : List OpD) (hd : 0 ≤ cH d ∧ U (cR d)) (hp : ∀ p ∈ ps, OkD p) : Tri Try.prog N_canterlaw20_FqOrder [.agg (Ks.mk KC d), .lf (.sl o)] [.lf .bool] (opsD o ps) (fun r => pur (r = true) emp) :=
  tri_0 (call_canterlaw20_FqOrder d o) fun w0 S R h => by
    unfold W_canterlaw20_FqOrder
    have h : Own w0 S R w0 (rarr o KD (ps.map Prod.fst) ^ rl (fun p : OpD => rarr (dR p.1) KU p.2) ps) := h
    have hol := (h.rd (s := o)).2
    rw [List.length_map] at hol
    obtain ⟨cf, hce⟩ : ∃ cf, cf = configF d := ⟨_, rfl⟩
    have hc : OkC cf := by rw [hce]; exact config_ok hd.1 hd.2
    have hm : may cf = true := by rw [hce]; exact config_may d
    refine w_new h fun n1 w h => w_ldAll (b := n1) (x := d) h rfl (w_call (config_tri d) h fun r w h => ?_)
    obtain ⟨hr, h⟩ := h.purP; rw [hr, ← hce]
    refine w_setAll h (by rfl) fun w h => w_ldAll (b := n1) (x := cf) h rfl (w_call (new_tri cf) h fun r w h => ?_)
    obtain ⟨b, h⟩ := h.exP
    obtain ⟨hr, h⟩ := h.purP
    rw [if_pos hm] at hr h
    rw [hr]
    refine w_call awake_tri h fun r w h => ?_
    obtain ⟨hr, h⟩ := h.purP; rw [hr]
    refine w_ite (fun c => (by simp at c)) fun _ => ?_
    refine w_new h fun n7 w h => ?_
    have h := h.newEight n7
    refine w_new h fun n8 w h => ?_
    have h := h.newEight n8
    have hP0 : Od 0 (newF cf) ((fun _ => []), fun _ => []) := ⟨OkQ.new hc, fun _ => rfl, fun _ => Int.le_refl _⟩
    have h := h.inq (f := fun x : Qm × (Nat → List Int) × (Nat → List Int) => que b x.1 ^ eight n7 x.2.1 ^ eight n8 x.2.2) (φ := fun x => Od 0 x.1 x.2) (newF cf, (fun _ => []), fun _ => []) hP0
    have h : Own w0 S R w (exq (fun x : Qm × (Nat → List Int) × (Nat → List Int) => Od ((0 : Int), (0 : Int), (0 : Int)).2.2 x.1 x.2) (fun x : Qm × (Nat → List Int) × (Nat → List Int) => que b x.1 ^ eight n7 x.2.1 ^ eight n8 x.2.2) ^ rarr o KD (ps.map Prod.fst) ^ rl (fun p : OpD => rarr (dR p.1) KU p.2) ps) := h.fin
    refine w_loop (fun y : Int × Int × Int => exq (fun x : Qm × (Nat → List Int) × (Nat → List Int) => Od y.2.2 x.1 x.2) (fun x : Qm × (Nat → List Int) × (Nat → List Int) => que b x.1 ^ eight n7 x.2.1 ^ eight n8 x.2.2) ^ rarr o KD (ps.map Prod.fst) ^ rl (fun p : OpD => rarr (dR p.1) KU p.2) ps) (fun y : Int × Int × Int => ((0 ≤ y.1 ∧ y.1 ≤ 4611686018427387904) ∧ 0 ≤ y.2.1 ∧ y.2.1 ≤ y.2.2) ∧ 0 ≤ y.2.2 ∧ y.2.2 ≤ 100) (fun y : Int × Int × Int => (100 - y.2.2).toNat) h ⟨by decide, by decide⟩ ?_
    rintro (y0 : Int × Int × Int) w ⟨⟨hnow, hsq⟩, hi0, hi1⟩ h
    obtain ⟨now, sq, i⟩ := y0
    dsimp only at hnow hsq hi0 hi1
    obtain ⟨⟨v, gi, go⟩, hOd, h⟩ := h.outq
    dsimp only at hOd h
    refine w_ite (fun c => ?_) fun c => ?_
    · have hcc : i < ps.length ∧ i < 100 := by
        have c : (decide (i < ((o.len : Nat) : Int)) && decide (i < 100)) = true := c
        rw [Bool.and_eq_true, decide_eq_true_eq, decide_eq_true_eq] at c
        omega
      have hi : i.toNat < ps.length := by omega
      have hwi : IntKind.i64.wrap (i + 1) = i + 1 := wi (by omega) (by omega)
      have hwq : IntKind.u64.wrap (sq + 1) = sq + 1 := wu (by omega) (by omega)
      obtain ⟨p, hpi⟩ : ∃ p, ps[i.toNat]? = some p := ⟨_, List.getElem?_eq_getElem hi⟩
      have hpm : (ps.map Prod.fst)[i.toNat]? = some p.1 := by rw [List.getElem?_map, hpi]; rfl
      have hD := hp p (List.mem_of_getElem? hpi)
      obtain ⟨ht, htl, hgu⟩ := nowF_r hnow hD.g
      refine w_idx (s := o) h hi0 (by rw [List.length_map]; exact hi) (w_ldE h o i.toNat hpm rfl ?_)
      refine w_new h fun n13 w h => w_setAll h (by rfl) fun w h => w_ld h rfl (w_call (radd_tri now _ (u_big hnow) hgu) h fun r w h => ?_)
      obtain ⟨hr, h⟩ := h.purP; rw [hr]
      have et : (if (4611686018427387904 : Int) < addI now ((dG p.1).tmod 2000000000) then (4611686018427387904 : Int) else addI now ((dG p.1).tmod 2000000000)) = nowF now (dG p.1) := rfl
      rw [et]
      obtain ⟨t, hte⟩ : ∃ t, t = nowF now (dG p.1) := ⟨_, rfl⟩
      rw [← hte] at ht htl ⊢
      have ut := u_big ht
      have nxt : ∀ (v' : Qm) (gi' go' : Nat → List Int) (sq' : Int) (w : World), 0 ≤ sq' ∧ sq' ≤ i + 1 → Od (i + 1) v' (gi', go') → Own w0 S R w (que b v' ^ eight n7 gi' ^ eight n8 go' ^ rarr o KD (ps.map Prod.fst) ^ rl (fun p : OpD => rarr (dR p.1) KU p.2) ps) →
          (((((0 ≤ (t, sq', i + 1).1 ∧ (t, sq', i + 1).1 ≤ 4611686018427387904) ∧ 0 ≤ (t, sq', i + 1).2.1 ∧ (t, sq', i + 1).2.1 ≤ (t, sq', i + 1).2.2) ∧ 0 ≤ (t, sq', i + 1).2.2 ∧ (t, sq', i + 1).2.2 ≤ 100) ∧ Own w0 S R w (exq (fun x : Qm × (Nat → List Int) × (Nat → List Int) => Od (t, sq', i + 1).2.2 x.1 x.2) (fun x : Qm × (Nat → List Int) × (Nat → List Int) => que b x.1 ^ eight n7 x.2.1 ^ eight n8 x.2.2) ^ rarr o KD (ps.map Prod.fst) ^ rl (fun p : OpD => rarr (dR p.1) KU p.2) ps)) ∧ (100 - (t, sq', i + 1).2.2).toNat < (100 - (now, sq, i).2.2).toNat) := fun v' gi' go' sq' w hq hP h => by
        have h := h.inq (f := fun x : Qm × (Nat → List Int) × (Nat → List Int) => que b x.1 ^ eight n7 x.2.1 ^ eight n8 x.2.2) (φ := fun x => Od (i + 1) x.1 x.2) (v', gi', go') hP
        exact ⟨⟨⟨⟨ht, hq.1, hq.2⟩, by show 0 ≤ i + 1; omega, by show i + 1 ≤ 100; omega⟩, h.fin⟩, by show (100 - (i + 1)).toNat < (100 - i).toNat; omega⟩
      have h : Own w0 S R w (blk n13 (Ks.mk KD p.1) ^ que b v ^ eight n7 gi ^ eight n8 go ^ rarr o KD (ps.map Prod.fst) ^ rl (fun p : OpD => rarr (dR p.1) KU p.2) ps) := h.fin
      refine w_join h (fun _ => blk n13 (Ks.mk KD p.1) ^ que b v ^ eight n7 gi ^ eight n8 go ^ rarr o KD (ps.map Prod.fst) ^ rl (fun p : OpD => rarr (dR p.1) KU p.2) ps) (fun _ : Bool => True) (fun (y : Bool) w _ h => ?_) ?_
      · refine w_ite (fun _ => ?_) fun _ => ?_
        · have h := h.nil KU
          refine w_callL (deq_tri b v hOd.ok t ut ⟨none, 0, 0⟩ [] nor) h fun r w h => ?_
          obtain ⟨hr, h⟩ := h.purP; rw [hr]
          have hvd := deq_ok hOd.ok ut nor
          refine w_new h fun n21 w h => w_setAll h (by rfl) fun w h => ?_
          rcases deq_frs hOd.ok ut nor with ⟨hn, hf⟩ | ⟨j, s, hsm, ⟨hsk, hj8⟩, hf⟩
          · rw [hn]
            refine w_ite (fun c => (by simp [outS] at c)) fun _ => ?_
            rw [hwi]
            exact nxt _ gi go sq w (by omega) ⟨hvd, fun j => by rw [hf j]; exact hOd.eq j, fun j => by have := hOd.len j; dsimp only at this ⊢; omega⟩ h.fin
          · rw [hsm] at h ⊢
            rw [show (outS (some s)).1 = s from rfl] at h
            refine w_ite (fun _ => ?_) fun c => (by simp [outS] at c)
            have hsk2 : s.1 = (j : Int) := hsk
            refine w_drw h fun w h => w_ld h rfl (w_ld h rfl (w_ld h rfl ?_))
            rw [hsk2, and7 hj8]
            refine ⟨by omega, ?_⟩
            rw [Int.toNat_natCast]
            obtain ⟨sls, h⟩ := h.eight n8 hj8
            refine w_ld h (sL_at sls hj8) (w_new h fun n26 w h => ?_)
            refine w_chk h (sL_chk sls hj8) (w_chk h (by rw [← hsk2]; rfl) (w_chk h (by rw [← hsk2]; rfl) ?_))
            have h := h.blkArr n26 KU [sFr s] rfl (by simp)
            have hgl := (hOd.len2 j).1
            dsimp only at hgl
            refine w_app (s := sls j) (x := ⟨some ⟨n26, 0⟩, 1, 1⟩) (ys := [sFr s]) h rfl (by simp only [List.length_singleton]; omega) fun s27 w _ h => ?_
            refine w_chk h (by rw [← hsk2]; rfl) ⟨by omega, ?_⟩
            refine w_setTo h n8 (sL (upS sls j s27)) rfl (by exact sL_ble hj8) (sL_up sls hj8 s27) fun w h => ?_
            rw [show (arr s27 KU (go j ++ [sFr s]) : SP) = arr (upS sls j s27 j) KU (upL go j (go j ++ [sFr s]) j) by rw [upL_same]; simp [upS]] at h
            have h := h.mkEight n8 sls (upS sls j s27) go (upL go j (go j ++ [sFr s])) hj8 (fun k e => by simp [upS, e]) (fun k e => upL_ne _ _ e)
            rw [hwi]
            refine nxt _ gi (upL go j (go j ++ [sFr s])) sq w (by omega) ⟨hvd, fun k => ?_, fun j => by have := hOd.len j; dsimp only at this ⊢; omega⟩ h.fin
            have e1 := hf k
            have e2 := hOd.eq k
            dsimp only at e2 ⊢
            by_cases e : k = j
            · subst e
              rw [upL_same]
              rw [if_pos rfl] at e1
              rw [← e2, e1, List.append_assoc]
            · rw [upL_ne _ _ e]
              rw [if_neg e, List.nil_append] at e1
              rw [← e2, e1]
        · refine w_ld (x := dS p.1) h rfl (w_call (seg_tri (dS p.1)) h fun r w h => ?_)
          obtain ⟨hr, h⟩ := h.purP; rw [hr]
          obtain ⟨s0, hs0⟩ : ∃ s0 : Sg, s0 = segF (dS p.1) := ⟨_, rfl⟩
          rw [← hs0]
          have hus : U (sSt s0) := by rw [hs0]; exact hD.s.2
          refine w_new h fun n30 w h => w_setAll h (by rfl) fun w h => ?_
          refine w_setTo h n30 (Ks.mk KS (sK s0, sq, sLn s0, sSt s0, sAg s0)) rfl rfl rfl fun w h => ?_
          obtain ⟨s1, hs1⟩ : ∃ s1 : Sg, s1 = (sK s0, sq, sLn s0, sSt s0, sAg s0) := ⟨_, rfl⟩
          have hq1 : sFr s1 = sq := by rw [hs1]
          have hU1 : U (sFr s1) ∧ U (sSt s1) := by rw [hs1]; exact ⟨by show U sq; unfold U; omega, hus⟩
          rw [← hs1] at h
          refine w_ldAll (b := n30) (x := s1) h rfl (w_call (enq_tri b v hOd.ok s1 t hU1 ut) h fun r w h => ?_)
          obtain ⟨hr, h⟩ := h.purP; rw [hr]
          have hve := hOd.ok.enq hU1 ut (s := s1)
          rcases enq_frs v s1 t with ⟨he, hk, hf⟩ | ⟨he, hf⟩
          · rw [he]
            refine w_ite (fun _ => ?_) fun c => (by simp at c)
            obtain ⟨j, hj⟩ : ∃ j : Nat, sK s1 = (j : Int) := ⟨(sK s1).toNat, by omega⟩
            have hj8 : j < 8 := by omega
            have hsk2 : s1.1 = (j : Int) := hj
            refine w_drw h fun w h => w_ld h rfl (w_ld h rfl (w_ld h rfl ?_))
            rw [hsk2]
            refine ⟨by omega, ?_⟩
            rw [Int.toNat_natCast]
            obtain ⟨sls, h⟩ := h.eight n7 hj8
            refine w_ld h (sL_at sls hj8) (w_new h fun n37 w h => ?_)
            refine w_chk h (sL_chk sls hj8) (w_chk h (by rw [← hsk2]; rfl) (w_chk h (by rw [← hsk2]; rfl) ?_))
            have h := h.blkArr n37 KU [sFr s1] rfl (by simp)
            have hgl := hOd.len j
            dsimp only at hgl
            refine w_app (s := sls j) (x := ⟨some ⟨n37, 0⟩, 1, 1⟩) (ys := [sFr s1]) h rfl (by simp only [List.length_singleton]; omega) fun s38 w _ h => ?_
            refine w_chk h (by rw [← hsk2]; rfl) ⟨by omega, ?_⟩
            refine w_setTo h n7 (sL (upS sls j s38)) rfl (by exact sL_ble hj8) (sL_up sls hj8 s38) fun w h => ?_
            rw [show (arr s38 KU (gi j ++ [sFr s1]) : SP) = arr (upS sls j s38 j) KU (upL gi j (gi j ++ [sFr s1]) j) by rw [upL_same]; simp [upS]] at h
            have h := h.mkEight n7 sls (upS sls j s38) gi (upL gi j (gi j ++ [sFr s1])) hj8 (fun k e => by simp [upS, e]) (fun k e => upL_ne _ _ e)
            rw [hwi, hwq]
            have hjt : (sK s1).toNat = j := by rw [hj, Int.toNat_natCast]
            refine nxt _ (upL gi j (gi j ++ [sFr s1])) go (sq + 1) w (by omega) ⟨hve, fun k => ?_, fun k => ?_⟩ h.fin
            · have e1 := hf k
              have e2 := hOd.eq k
              rw [hjt] at e1
              dsimp only at e2 ⊢
              by_cases e : k = j
              · subst e
                rw [upL_same, e1, if_pos rfl, ← e2, List.append_assoc]
              · rw [upL_ne _ _ e, e1, if_neg e, List.append_nil, e2]
            · have e2 := hOd.len k
              dsimp only at e2 ⊢
              by_cases e : k = j
              · subst e
                rw [upL_same, List.length_append, List.length_singleton]
                omega
              · rw [upL_ne _ _ e]
                omega
          · refine w_ite (fun c => (by rw [he] at c; cases c)) fun _ => ?_
            rw [hwi, hwq]
            exact nxt _ gi go (sq + 1) w (by omega) ⟨hve, fun j => by rw [hf j]; exact hOd.eq j, fun j => by have := hOd.len j; dsimp only at this ⊢; omega⟩ h.fin
      · refine w_ld h rfl (w_ite (fun _ => ⟨trivial, h⟩) fun _ => w_ld h rfl ⟨trivial, h⟩)
    · have h : Own w0 S R w (que b v ^ eight n7 gi ^ eight n8 go) := h.fin
      refine w_loop (fun _ : Int => que b v ^ eight n7 gi ^ eight n8 go) (fun y : Int => 0 ≤ y ∧ y ≤ 8) (fun y : Int => (8 - y).toNat) h ⟨by decide, by decide⟩ ?_
      rintro (k : Int) w hk h
      have hwk : IntKind.i64.wrap (k + 1) = k + 1 := wi (by omega) (by omega)
      refine w_ite (fun ck => ?_) fun ck => Own.retP rfl h.emp'
      have c8 : k < 8 := by simpa using ck
      obtain ⟨j, hj⟩ : ∃ j : Nat, k = (j : Int) := ⟨k.toNat, by omega⟩
      have hj8 : j < 8 := by omega
      rw [hj] at hwk ⊢
      have hln := hOd.len j
      have hl2 := hOd.len2 j
      dsimp only at hln hl2
      refine w_call (flow_tri b v hOd.ok (j : Int)) h fun r w h => ?_
      obtain ⟨s, h⟩ := h.exP
      obtain ⟨hr, h⟩ := h.purP; rw [hr]
      have hsg : (sgF v (j : Int)).map sFr = frs (v.fl j) := by
        cases hf : v.fl j with
        | none => rw [(seen_none s hf).2]; rfl
        | some f => rw [(seen_some s hj8 hf).2]; rfl
      have hss : ((sgF v (j : Int)).length ≠ 0 → (seenF v (j : Int) s).1.2.2.2.2.2 = s) ∧ ((seenF v (j : Int) s).1.2.2.2.2.2.len = (sgF v (j : Int)).length ∨ (seenF v (j : Int) s).1.2.2.2.2.2 = s) := by
        cases hf : v.fl j with
        | none => rw [(seen_none s hf).2, (seen_none s hf).1]; exact ⟨fun x => absurd rfl x, .inl rfl⟩
        | some f => rw [(seen_some s hj8 hf).1]; exact ⟨fun _ => rfl, .inr rfl⟩
      have hsl := (h.rd (s := s)).2
      have hfl : (seenF v (j : Int) s).1.2.2.2.2.2.len = (sgF v (j : Int)).length := hss.2.elim id fun e => by rw [e, hsl]
      have hgl : (sgF v (j : Int)).length = (frs (v.fl j)).length := by rw [← hsg, List.length_map]
      refine w_new h fun n42 w h => w_setAll h (by rfl) fun w h => ?_
      refine ⟨by omega, ?_⟩
      rw [Int.toNat_natCast]
      obtain ⟨sls, h⟩ := h.eight n8 hj8
      refine w_ld h (sL_at sls hj8) ?_
      have h := h.nil KU
      refine w_app (K := KU) (s := ⟨none, 0, 0⟩) (x := sls j) (xs := []) (ys := go j) h rfl (by simp only [List.length_nil]; omega) fun s44 w _ h => ?_
      have h := h.mkEight n8 sls sls go go hj8 (fun _ _ => rfl) (fun _ _ => rfl)
      have h : Own w0 S R w (arr s44 KU (go j ++ ((sgF v (j : Int)).map sFr).take ((0 : Int)).toNat) ^ blk n42 (Ks.mk KF (seenF v (j : Int) s).1) ^ arr s KS (sgF v (j : Int)) ^ que b v ^ eight n7 gi ^ eight n8 go) := by
        rw [show (([] : List Int) ++ go j) = go j ++ ((sgF v (j : Int)).map sFr).take ((0 : Int)).toNat by simp] at h
        exact h.fin
      refine w_loop (fun y : Sl × Int => arr y.1 KU (go j ++ ((sgF v (j : Int)).map sFr).take y.2.toNat) ^ blk n42 (Ks.mk KF (seenF v (j : Int) s).1) ^ arr s KS (sgF v (j : Int)) ^ que b v ^ eight n7 gi ^ eight n8 go) (fun y : Sl × Int => 0 ≤ y.2 ∧ y.2 ≤ (sgF v (j : Int)).length) (fun y : Sl × Int => ((sgF v (j : Int)).length - y.2).toNat) h ⟨by show (0 : Int) ≤ 0; decide, by show (0 : Int) ≤ _; omega⟩ ?_
      rintro (y1 : Sl × Int) w hy h
      obtain ⟨sx, y⟩ := y1
      dsimp only at hy h
      have hyw : IntKind.i64.wrap (y + 1) = y + 1 := wi (by omega) (by omega)
      refine w_ld h rfl (w_ite (fun c => ?_) fun c => ?_)
      · have c : y < ((seenF v (j : Int) s).1.2.2.2.2.2.len : Int) := by simpa using c
        rw [hfl] at c
        have hsq := hss.1 (by omega)
        obtain ⟨x, hx⟩ : ∃ x, (sgF v (j : Int))[y.toNat]? = some x := ⟨_, List.getElem?_eq_getElem (by omega)⟩
        have hxm : ((sgF v (j : Int)).map sFr)[y.toNat]? = some (sFr x) := by rw [List.getElem?_map, hx]; rfl
        refine w_ld h rfl ?_
        rw [hsq]
        refine w_idx (s := s) h hy.1 (by omega) (w_ldA h s y.toNat 1 x hx rfl (by decide) rfl (w_new h fun n51 w h => ?_))
        have h := h.blkArr n51 KU [sFr x] rfl (by simp)
        refine w_app (s := sx) (x := ⟨some ⟨n51, 0⟩, 1, 1⟩) (ys := [sFr x]) h rfl (by simp only [List.length_append, List.length_take, List.length_map, List.length_singleton]; omega) fun s52 w _ h => ?_
        rw [List.append_assoc, ← take_up hxm] at h
        rw [hyw]
        have e : (y + 1).toNat = y.toNat + 1 := by omega
        refine ⟨⟨⟨by show 0 ≤ y + 1; omega, by show y + 1 ≤ _; omega⟩, ?_⟩, by show (_ - (y + 1)).toNat < (_ - y).toNat; omega⟩
        dsimp only
        rw [e]
        exact h.fin
      · have c : ¬ y < ((seenF v (j : Int) s).1.2.2.2.2.2.len : Int) := by simpa using c
        rw [hfl] at c
        have e1 : ((sgF v (j : Int)).map sFr).take y.toNat = frs (v.fl j) := by
          rw [List.take_of_length_le (by rw [List.length_map]; omega), hsg]
        have e2 := hOd.eq j
        dsimp only at e2
        rw [e1, e2] at h
        refine ⟨by omega, ?_⟩
        obtain ⟨sl7, h⟩ := h.eight n7 hj8
        refine w_ld h (sL_at sl7 hj8) ?_
        refine w_callL (A := emp) (Q := rarr sx KU (gi j) ^ rarr (sl7 j) KU (gi j)) (U64s.u64_plain_tri sx (sl7 j) (gi j) (gi j) (by omega)) h fun r w h => ?_
        obtain ⟨hr, h⟩ := h.purP
        refine w_ite (fun c => ?_) fun _ => ?_
        · have c : r = false := by simpa using c
          have := hr.2 rfl
          rw [c] at this; cases this
        have h := h.mkEight n7 sl7 sl7 gi gi hj8 (fun _ _ => rfl) (fun _ _ => rfl)
        rw [hwk]
        exact ⟨⟨by omega, h.fin⟩, by omega⟩
end FqT

end Go.X
