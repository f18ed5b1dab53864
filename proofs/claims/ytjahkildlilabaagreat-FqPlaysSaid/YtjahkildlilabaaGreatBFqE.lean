/- Contracts and plain facts: FqD FqE. -/
import Derived.Test.YtjahkildlilabaaGreatBArith
import Derived.Test.YtjahkildlilabaaGreatBInts
import Derived.Test.YtjahkildlilabaaGreatBListsO
import Derived.Test.YtjahkildlilabaaGreatBTreeN
import Derived.Test.YtjahkildlilabaaGreatBTreeB
import Derived.Test.YtjahkildlilabaaGreatBTreeD
import Derived.Test.YtjahkildlilabaaGreatBTreeF
import Derived.Test.YtjahkildlilabaaGreatBFqC
import Derived.Test.YtjahkildlilabaaGreatXw
import Derived.Test.YtjahkildlilabaaGreatK
import Derived.Test.YtjahkildlilabaaGreatF0
import Derived.Test.YtjahkildlilabaaGreatF1
set_option linter.unusedVariables false
set_option linter.unusedSimpArgs false
set_option linter.unusedSectionVars false
namespace Go.X
open Go.Proofs
namespace FqD
open Arith ArithC Lists _root_.Go.X.Tree TreeC TreeD TreeE TreeF FqM FqC
theorem placeI_tri (b : Nat) (p : Nat → Option Pt) (l t : Nat) (v : Qm) (hv : okL v.lv) (i : Int) (hi : 0 ≤ i ∧ i < 8) : Tri Tryz.prog N_fq_Queue_place [.lf (.ptr (some ⟨b, 0⟩)), .lf (.int .i64 i)] [.lf (.int .i64)] (blk b (qL v.c p l t v.n) ^ lst l v.lv ^ tree 8 t v.ks ^ All8 p v.fl) (fun r => pur (r = plc v i.toNat) (blk b (qL v.c p l t v.n) ^ lst l v.lv ^ tree 8 t v.ks ^ All8 p v.fl)) :=
  tri_0 (call_fq_Queue_place (some ⟨b, 0⟩) i) fun w0 S R h => by
    unfold W_fq_Queue_place
    have hl := hv.few
    refine w_deref (w_ld h rfl (w_call (Lists.place_tri l v.lv i (by omega)) h fun r w h => ?_))
    obtain ⟨hr, h⟩ := h.purP; rw [hr]
    have hi' : ((i.toNat : Nat) : Int) = i := by omega
    refine w_ite (fun c => ?_) fun c => ?_
    · have c : placeF v.lv i ≠ 0 := by simpa using c
      refine Own.retP ?_ h.fin
      unfold plc; rw [hi', if_pos c]
    have c : ¬ placeF v.lv i ≠ 0 := by simpa using c
    refine w_deref ⟨hi, w_ld h (qL_at _ _ _ _ _ i.toNat (by omega)) ?_⟩
    cases hf : v.fl i.toNat with
    | none =>
      rw [(h.noF p v.fl (by omega) hf).1]
      refine w_ite (fun c => (by simp at c)) fun _ => ?_
      refine Own.retP ?_ h.fin
      unfold plc; rw [hi', if_neg c, hf]
    | some f =>
      obtain ⟨a, hp, h⟩ := h.outF p v.fl (by omega) hf
      rw [hp]
      refine w_ite (fun _ => ?_) fun c => (by simp at c)
      obtain ⟨s, h⟩ := h.flow a
      refine w_deref (w_ld h rfl ?_)
      have hs := (h.rd (s := s)).2
      have h := h.mkFlow a s f
      have h := h.inF p v.fl (by omega) p v.fl a f (fun _ _ => rfl) (fun _ _ => rfl) hp hf
      refine w_ite (fun c2 => ?_) fun c2 => ?_
      · have c2 : (s.len : Int) > 0 := by simpa using c2
        refine Own.retP ?_ h.fin
        unfold plc; rw [hi', if_neg c, hf]
        exact (if_neg (fun e => by rw [e] at hs; simp only [List.length_nil] at hs; omega)).symm
      · have c2 : ¬ (s.len : Int) > 0 := by simpa using c2
        refine Own.retP ?_ h.fin
        unfold plc; rw [hi', if_neg c, hf]
        exact (if_pos (List.eq_nil_of_length_eq_zero (by omega))).symm
theorem placeO_tri (b : Nat) (p : Nat → Option Pt) (l t : Nat) (v : Qm) (hv : okL v.lv) (i : Int) (hi : 0 ≤ i ∧ i < 8) (a : Nat) (s : Sl) (f : Fl) (hf : v.fl i.toNat = some f) (hp : p i.toNat = some ⟨a, 0⟩) : Tri Tryz.prog N_fq_Queue_place [.lf (.ptr (some ⟨b, 0⟩)), .lf (.int .i64 i)] [.lf (.int .i64)]
    (blk b (qL v.c p l t v.n) ^ lst l v.lv ^ blk a [.int .i64 f.cr, .int .u64 f.nx, .int .u64 f.si, .sl s] ^ arr s KS f.sg) (fun r => pur (r = plc v i.toNat) (blk b (qL v.c p l t v.n) ^ lst l v.lv ^ blk a [.int .i64 f.cr, .int .u64 f.nx, .int .u64 f.si, .sl s] ^ arr s KS f.sg)) :=
  tri_0 (call_fq_Queue_place (some ⟨b, 0⟩) i) fun w0 S R h => by
    unfold W_fq_Queue_place
    have hl := hv.few
    refine w_deref (w_ld h rfl (w_call (Lists.place_tri l v.lv i (by omega)) h fun r w h => ?_))
    obtain ⟨hr, h⟩ := h.purP; rw [hr]
    have hi' : ((i.toNat : Nat) : Int) = i := by omega
    refine w_ite (fun c => ?_) fun c => ?_
    · have c : placeF v.lv i ≠ 0 := by simpa using c
      refine Own.retP ?_ h.fin
      unfold plc; rw [hi', if_pos c]
    have c : ¬ placeF v.lv i ≠ 0 := by simpa using c
    refine w_deref ⟨hi, w_ld h (qL_at _ _ _ _ _ i.toNat (by omega)) ?_⟩
    rw [hp]
    refine w_ite (fun _ => ?_) fun c => (by simp at c)
    refine w_deref (w_ld h rfl ?_)
    have hs := (h.rd (s := s)).2
    refine w_ite (fun c2 => ?_) fun c2 => ?_
    · have c2 : (s.len : Int) > 0 := by simpa using c2
      refine Own.retP ?_ h.fin
      unfold plc; rw [hi', if_neg c, hf]
      exact (if_neg (fun e => by rw [e] at hs; simp only [List.length_nil] at hs; omega)).symm
    · have c2 : ¬ (s.len : Int) > 0 := by simpa using c2
      refine Own.retP ?_ h.fin
      unfold plc; rw [hi', if_neg c, hf]
      exact (if_pos (List.eq_nil_of_length_eq_zero (by omega))).symm
theorem idle_tri (b : Nat) (p : Nat → Option Pt) (l t : Nat) (v : Qm) (hv : okL v.lv) (i long now : Int) (hi : 0 ≤ i ∧ i < 8) (hl : U long) (hs : ∀ f, v.fl i.toNat = some f → U f.si) : Tri Tryz.prog N_fq_Queue_idle [.lf (.ptr (some ⟨b, 0⟩)), .lf (.int .i64 i), .lf (.int .u64 long), .lf (.int .u64 now)] [.lf .bool] (blk b (qL v.c p l t v.n) ^ lst l v.lv ^ tree 8 t v.ks ^ All8 p v.fl) (fun r => pur (r = idle v i.toNat long now) (blk b (qL v.c p l t v.n) ^ lst l v.lv ^ tree 8 t v.ks ^ All8 p v.fl)) :=
  tri_0 (call_fq_Queue_idle (some ⟨b, 0⟩) i long now) fun w0 S R h => by
    unfold W_fq_Queue_idle
    refine w_deref ⟨hi, w_ld h (qL_at _ _ _ _ _ i.toNat (by omega)) ?_⟩
    cases hf : v.fl i.toNat with
    | none =>
      rw [(h.noF p v.fl (by omega) hf).1]
      refine w_ite (fun c => (by simp at c)) fun _ => ?_
      refine Own.retP ?_ h.fin
      unfold idle; rw [hf]
    | some f =>
      rw [isN h p v.fl (i := i.toNat) (by omega), hf]
      refine w_ite (fun _ => ?_) fun c => (by simp at c)
      refine w_call (placeI_tri b p l t v hv i hi) h fun r w h => ?_
      obtain ⟨hr, h⟩ := h.purP; rw [hr]
      obtain ⟨a, hp, h⟩ := h.outF p v.fl (by omega) hf
      rw [hp]
      refine w_ite (fun c => ?_) fun c => ?_
      · have c : plc v i.toNat = 0 := by simpa using c
        obtain ⟨s, h⟩ := h.flow a
        refine w_deref (w_ld h rfl (w_call (satadd_tri _ _ (hs f hf) hl) h fun r w h => ?_))
        obtain ⟨hr, h⟩ := h.purP; rw [hr]
        have h := h.mkFlow a s f
        have h := h.inF p v.fl (by omega) p v.fl a f (fun _ _ => rfl) (fun _ _ => rfl) hp hf
        refine Own.retP ?_ h.fin
        unfold idle; rw [hf]; simp [c]
      · have c : ¬ plc v i.toNat = 0 := by simpa using c
        have h := h.inF p v.fl (by omega) p v.fl a f (fun _ _ => rfl) (fun _ _ => rfl) hp hf
        refine Own.retP ?_ h.fin
        unfold idle; rw [hf]; simp [c]
theorem all_congr (p q : Nat → Option Pt) (fl gl : Nat → Option Fl) (hp : ∀ j, j < 8 → q j = p j) (hf : ∀ j, j < 8 → gl j = fl j) : All8 q gl = All8 p fl := bigS_congr 8 fun j hj => by
  show flowP _ _ = flowP _ _; rw [hp j hj, hf j hj]
abbrev collN (v : Qm) (now : Int) (k : Nat) : Qm := { v with fl := fun i => if i < k ∧ idle v i 3000000000 now = true then none else v.fl i }
theorem collN_idle (v : Qm) (now : Int) (k : Nat) : idle (collN v now k) k 3000000000 now = idle v k 3000000000 now := by
  have e : (collN v now k).fl k = v.fl k := by unfold collN; simp
  have e2 : plc (collN v now k) k = plc v k := by unfold plc; rw [e]
  unfold idle
  rw [e, e2]
theorem collect_tri (b : Nat) (p : Nat → Option Pt) (l t : Nat) (v : Qm) (hv : OkQ v) (now : Int) : Tri Tryz.prog N_fq_Queue_collect [.lf (.ptr (some ⟨b, 0⟩)), .lf (.int .u64 now)] [] (blk b (qL v.c p l t v.n) ^ lst l v.lv ^ tree 8 t v.ks ^ All8 p v.fl) (fun _ => ex fun p : Nat → Option Pt => blk b (qL ((collectF v now)).c p l t ((collectF v now)).n) ^ lst l ((collectF v now)).lv ^ tree 8 t ((collectF v now)).ks ^ All8 p ((collectF v now)).fl) :=
  tri_0 (call_fq_Queue_collect (some ⟨b, 0⟩) now) fun w0 S R h => by
    unfold W_fq_Queue_collect
    have h : Own w0 S R w0 ((ex fun p : Nat → Option Pt => blk b (qL ((collN v now (0 : Int).toNat)).c p l t ((collN v now (0 : Int).toNat)).n) ^ lst l ((collN v now (0 : Int).toNat)).lv ^ tree 8 t ((collN v now (0 : Int).toNat)).ks ^ All8 p ((collN v now (0 : Int).toNat)).fl) ^ emp) := by
      have e : collN v now (0 : Int).toNat = v := by unfold collN; simp
      rw [e]
      exact Own.toEx (f := fun p : Nat → Option Pt => blk b (qL v.c p l t v.n) ^ lst l v.lv ^ tree 8 t v.ks ^ All8 p v.fl) p h.fin
    refine w_loop (fun y : Int => ex fun p : Nat → Option Pt => blk b (qL ((collN v now y.toNat)).c p l t ((collN v now y.toNat)).n) ^ lst l ((collN v now y.toNat)).lv ^ tree 8 t ((collN v now y.toNat)).ks ^ All8 p ((collN v now y.toNat)).fl) (fun y : Int => 0 ≤ y ∧ y ≤ 8) (fun y : Int => (8 - y).toNat) h.keep ⟨by decide, by decide⟩ ?_
    rintro (y : Int) w hy h
    obtain ⟨p, h⟩ := (h.le (star_emp _)).exP
    have hw : IntKind.i64.wrap (y + 1) = y + 1 := wi (by omega) (by omega)
    refine w_ite (fun c => ?_) fun c => ?_
    · have c : y < 8 := by simpa using c
      have hfy : (collN v now y.toNat).fl y.toNat = v.fl y.toNat := by unfold collN; simp
      refine w_call (idle_tri b p l t (collN v now y.toNat) hv.lv y 3000000000 now ⟨hy.1, c⟩ (by unfold U; omega) (fun f hf => (hv.fl _ f (hfy ▸ hf)).2.si)) h fun r w h => ?_
      obtain ⟨hr, h⟩ := h.purP; rw [hr, collN_idle]
      have hn : (y + 1).toNat = y.toNat + 1 := by omega
      dsimp only
      rw [hw]
      have key : ∀ (q : Nat → Option Pt) (w : World), Own w0 S R w (blk b (qL v.c q l t v.n) ^ lst l v.lv ^ tree 8 t v.ks ^ All8 q (collN v now (y + 1).toNat).fl ^ emp) → (((0 ≤ y + 1 ∧ y + 1 ≤ 8) ∧ Own w0 S R w (ex fun p : Nat → Option Pt => blk b (qL ((collN v now (y + 1).toNat)).c p l t ((collN v now (y + 1).toNat)).n) ^ lst l ((collN v now (y + 1).toNat)).lv ^ tree 8 t ((collN v now (y + 1).toNat)).ks ^ All8 p ((collN v now (y + 1).toNat)).fl)) ∧ (8 - (y + 1)).toNat < (8 - y).toNat) := fun q w h => by
        refine ⟨⟨by omega, ?_⟩, by omega⟩
        have h : Own w0 S R w ((ex fun p : Nat → Option Pt => blk b (qL ((collN v now (y + 1).toNat)).c p l t ((collN v now (y + 1).toNat)).n) ^ lst l ((collN v now (y + 1).toNat)).lv ^ tree 8 t ((collN v now (y + 1).toNat)).ks ^ All8 p ((collN v now (y + 1).toNat)).fl) ^ emp) := Own.toEx (f := fun p : Nat → Option Pt => blk b (qL ((collN v now (y + 1).toNat)).c p l t ((collN v now (y + 1).toNat)).n) ^ lst l ((collN v now (y + 1).toNat)).lv ^ tree 8 t ((collN v now (y + 1).toNat)).ks ^ All8 p ((collN v now (y + 1).toNat)).fl) q h.fin
        exact h.keep
      refine w_ite (fun c2 => ?_) fun c2 => ?_
      · obtain ⟨f, hf, _⟩ := idle_some c2
        obtain ⟨a, hp, h⟩ := h.outF p (collN v now y.toNat).fl (i := y.toNat) (by omega) (hfy.trans hf)
        refine w_deref ⟨⟨hy.1, c⟩, ?_⟩
        refine w_setTo h b (qL v.c (upP p y.toNat none) l t v.n) rfl (Nat.ble_eq_true_of_le (by show 0 + 9 + y.toNat * 1 + 1 ≤ 20; omega)) (qL_up _ _ _ _ _ y.toNat (by omega) none) fun w h => ?_
        have h := h.inN p (collN v now y.toNat).fl (i := y.toNat) (by omega) (upP p y.toNat none) (collN v now (y + 1).toNat).fl (fun j e => upP_ne _ _ e) (fun j e => by
          unfold collN
          simp only
          have : (j < (y + 1).toNat ∧ idle v j 3000000000 now = true) ↔ (j < y.toNat ∧ idle v j 3000000000 now = true) := ⟨fun h => ⟨by omega, h.2⟩, fun h => ⟨by omega, h.2⟩⟩
          by_cases h : j < y.toNat ∧ idle v j 3000000000 now = true
          · rw [if_pos h, if_pos (this.2 h)]
          · rw [if_neg h, if_neg (fun x => h (this.1 x))]) (upP_same _ _ _) (by unfold collN; exact if_pos ⟨by omega, c2⟩)
        exact key (upP p y.toNat none) w h.fin
      · have e : (collN v now (y + 1).toNat).fl = (collN v now y.toNat).fl := funext fun j => by
          unfold collN
          simp only
          have : (j < (y + 1).toNat ∧ idle v j 3000000000 now = true) ↔ (j < y.toNat ∧ idle v j 3000000000 now = true) := ⟨fun h => ⟨by
            have : j ≠ y.toNat := fun e => by have := h.2; rw [e, c2] at this; cases this
            omega, h.2⟩, fun h => ⟨by omega, h.2⟩⟩
          by_cases h : j < y.toNat ∧ idle v j 3000000000 now = true
          · rw [if_pos h, if_pos (this.2 h)]
          · rw [if_neg h, if_neg (fun x => h (this.1 x))]
        refine key p w ?_
        rw [e]
        exact h.fin
    · have c : ¬ y < 8 := by simpa using c
      have e : y = 8 := by omega
      subst e
      have e : All8 p (collectF v now).fl = All8 p (collN v now (8 : Int).toNat).fl := all_congr _ _ _ _ (fun _ _ => rfl) fun j hj => by
        show (if _ then _ else _) = (if _ then _ else _)
        by_cases h : idle v j 3000000000 now = true
        · rw [if_pos h, if_pos ⟨hj, h⟩]
        · rw [if_neg h, if_neg (fun x => h x.2)]
      refine Own.retE p ?_
      rw [e]
      exact h.fin
theorem fate_tri (b : Nat) (p : Nat → Option Pt) (l t : Nat) (v : Qm) (hv : OkQ v) (n : Nat) (s : Sg) (now : Int) (hs : 0 ≤ sK s ∧ sK s < 8) (hn : U now) : Tri Tryz.prog N_fq_Queue_fate [.lf (.ptr (some ⟨b, 0⟩)), .lf (.ptr (some ⟨n, 0⟩)), .lf (.int .u64 now)] [.lf (.int .i64)]
    (blk n (Ks.mk KS s) ^ blk b (qL v.c p l t v.n) ^ lst l v.lv ^ tree 8 t v.ks ^ All8 p v.fl) (fun r => pur (r = fateF v s now) (blk n (Ks.mk KS (if fateF v s now = 0 then drawn v s now else s)) ^ blk b (qL v.c p l t v.n) ^ lst l v.lv ^ tree 8 t v.ks ^ All8 p v.fl)) :=
  tri_0 (call_fq_Queue_fate (some ⟨b, 0⟩) (some ⟨n, 0⟩) now) fun w0 S R h => by
    unfold W_fq_Queue_fate
    have hH : U (cH v.c) := by have := hv.cf.h; unfold U; omega
    refine w_drw h fun w h => w_deref (w_deref (w_ld h rfl ⟨hs, w_ld h (qL_at _ _ _ _ _ _ (by omega)) ?_⟩))
    refine w_deref (w_ld h rfl (w_call (satadd_tri _ _ hn hH) h fun r w h => ?_))
    obtain ⟨hr, h⟩ := h.purP; rw [hr]
    refine w_join h (fun _ => blk n (Ks.mk KS s) ^ blk b (qL v.c p l t v.n) ^ lst l v.lv ^ tree 8 t v.ks ^ All8 p v.fl) (fun _ => fateF v s now = 0) (fun _ w hx h => ?_) ?_
    · refine w_deref (w_ld h rfl (w_deref ?_))
      refine w_setTo h n (Ks.mk KS (drawn v s now)) rfl rfl rfl fun w h => ?_
      refine Own.retP hx.symm ?_
      rw [if_pos hx]
      exact h.fin
    refine w_drw h fun w h => w_deref (w_deref (w_ld h rfl (w_ld h rfl ?_)))
    refine w_ite (fun c => ?_) fun c1 => ?_
    · have c : v.n ≥ cL v.c := by simpa using c
      have e : fateF v s now = 2 := by unfold fateF; rw [if_pos c]
      refine Own.retP e.symm ?_
      rw [e, if_neg (by decide)]; exact h.fin
    have c1 : ¬ v.n ≥ cL v.c := by simpa using c1
    refine w_join h (fun _ => blk n (Ks.mk KS s) ^ blk b (qL v.c p l t v.n) ^ lst l v.lv ^ tree 8 t v.ks ^ All8 p v.fl) (fun y : Bool => y = true ↔ ∃ f, v.fl (sK s).toNat = some f ∧ (f.sg.length : Int) ≥ cW v.c) (fun y w hx h => ?_) ?_
    · refine w_ite (fun c => ?_) fun c2 => ?_
      · have e : fateF v s now = 3 := by unfold fateF; rw [if_neg c1, if_pos (hx.1 c)]
        refine Own.retP e.symm ?_
        rw [e, if_neg (by decide)]; exact h.fin
      have c2 : ¬ ∃ f, v.fl (sK s).toNat = some f ∧ (f.sg.length : Int) ≥ cW v.c := fun x => by have := hx.2 x; rw [c2] at this; cases this
      refine w_deref (w_ld h rfl ?_)
      refine w_ite (fun c => ?_) fun c3 => ?_
      · have c : sSt s > addI now (cH v.c) := by simpa using c
        refine w_deref (w_ld h rfl ?_)
        refine w_ite (fun c4 => ?_) fun c4 => ?_
        · have e : fateF v s now = 4 := by unfold fateF; rw [if_neg c1, if_neg c2, if_pos ⟨c, c4⟩]
          refine Own.retP e.symm ?_
          rw [e, if_neg (by decide)]; exact h.fin
        · exact ⟨by unfold fateF; rw [if_neg c1, if_neg c2, if_neg (fun x => by rw [c4] at x; cases x.2)], h.fin⟩
      · have c3 : ¬ sSt s > addI now (cH v.c) := by simpa using c3
        exact ⟨by unfold fateF; rw [if_neg c1, if_neg c2, if_neg (fun x => c3 x.1)], h.fin⟩
    refine w_drw h fun w h => ?_
    cases hf : v.fl (sK s).toNat with
    | none =>
      rw [(h.noF p v.fl (i := (sK s).toNat) (by omega) hf).1]
      refine w_ite (fun c => (by simp at c)) fun _ => ?_
      exact ⟨⟨fun e => (by cases e), fun ⟨_, e, _⟩ => (by cases e)⟩, h.fin⟩
    | some f =>
      obtain ⟨a, hp, h⟩ := h.outF p v.fl (i := (sK s).toNat) (by omega) hf
      rw [hp]
      refine w_ite (fun _ => ?_) fun c => (by simp at c)
      obtain ⟨s', h⟩ := h.flow a
      have hs' := (h.rd (s := s')).2
      refine w_deref (w_deref (w_ld h rfl (w_ld h rfl ?_)))
      have h := h.mkFlow a s' f
      have h := h.inF p v.fl (i := (sK s).toNat) (by omega) p v.fl a f (fun _ _ => rfl) (fun _ _ => rfl) hp hf
      refine ⟨?_, h.fin⟩
      show decide ((s'.len : Int) ≥ cW v.c) = true ↔ _
      rw [decide_eq_true_eq, hs']
      exact ⟨fun x => ⟨f, rfl, x⟩, fun ⟨g, hg, x⟩ => by cases hg; exact x⟩
theorem wake_eq {v : Qm} (hv : OkQ v) {i : Nat} (now : Int) (hi : plc v i ≠ 0) : (wakeF v i now).fl = v.fl ∧ (wakeF v i now).lv = v.lv := by
  refine ⟨funext fun j => ?_, ?_⟩
  · by_cases e : j = i
    · subst e
      show upF v.fl j _ j = _
      rw [upF_same]
      cases hf : v.fl j with
      | none =>
        refine absurd (plc_0.2 ⟨fun h => ?_, fun f h => by rw [hf] at h; cases h⟩) hi
        obtain ⟨f, h2⟩ := hv.th j h
        rw [hf] at h2; cases h2
      | some f => unfold woken; rw [hf]; simp [hi]
    · exact upF_ne _ _ e
  · show wakeL v i = _
    unfold wakeL; rw [if_pos hi]
theorem wake_tri (b : Nat) (p : Nat → Option Pt) (l t : Nat) (v : Qm) (hv : OkQ v) (i now : Int) (hi : 0 ≤ i ∧ i < 8) : Tri Tryz.prog N_fq_Queue_wake [.lf (.ptr (some ⟨b, 0⟩)), .lf (.int .i64 i), .lf (.int .u64 now)] [] (blk b (qL v.c p l t v.n) ^ lst l v.lv ^ tree 8 t v.ks ^ All8 p v.fl) (fun _ => ex fun p : Nat → Option Pt => blk b (qL ((wakeF v i.toNat now)).c p l t ((wakeF v i.toNat now)).n) ^ lst l ((wakeF v i.toNat now)).lv ^ tree 8 t ((wakeF v i.toNat now)).ks ^ All8 p ((wakeF v i.toNat now)).fl) :=
  tri_0 (call_fq_Queue_wake (some ⟨b, 0⟩) i now) fun w0 S R h => by
    unfold W_fq_Queue_wake
    have h8 : i.toNat < 8 := by omega
    have hi' : ((i.toNat : Nat) : Int) = i := by omega
    have hl := hv.lv.few
    have hb : ∀ x : Option Pt, Nat.ble (0 + 9 + i.toNat * 1 + [Lf.ptr x].length) (qL v.c p l t v.n).length = true := fun x => Nat.ble_eq_true_of_le (by show 0 + 9 + i.toNat * 1 + 1 ≤ 20; omega)
    refine w_deref ⟨hi, w_ld h (qL_at _ _ _ _ _ i.toNat h8) ?_⟩
    refine w_join h (fun _ => exq (fun x : (Nat → Option Pt) × Nat × Fl => (x.1 i.toNat = some ⟨x.2.1, 0⟩ ∧ ∀ j, j ≠ i.toNat → x.1 j = p j) ∧ { x.2.2 with si := 0 } = woken v i.toNat now) (fun x => blk b (qL v.c x.1 l t v.n) ^ lst l v.lv ^ tree 8 t v.ks ^ FqC.flow x.2.1 x.2.2 ^ But8 p v.fl i.toNat)) (fun _ => plc v i.toNat = 0) (fun _ w hx h => ?_) ?_
    · obtain ⟨⟨q, a, g⟩, ⟨⟨hq, hq2⟩, hg⟩, h⟩ := h.outq1
      dsimp only at hq hq2 hg h
      refine w_deref ⟨hi, w_ld h (qL_at _ _ _ _ _ i.toNat h8) ?_⟩
      dsimp only
      rw [hq]
      obtain ⟨s, h⟩ := h.flow a
      refine w_deref (w_setTo h a [.int .i64 g.cr, .int .u64 g.nx, .int .u64 0, .sl s] rfl rfl rfl fun w h => ?_)
      have h := h.mkFl a s g.cr g.nx 0 g.sg { g with si := 0 } rfl
      refine w_deref (w_ld h rfl ?_)
      refine w_call (push_tri l v.lv i true (by omega)) h fun r w h => ?_
      obtain ⟨hr, h⟩ := h.purP
      have hw : wakeL v i.toNat = (pushF v.lv i true).2 := by unfold wakeL; rw [if_neg (by rw [hx]; simp), hi']
      rw [← hw, hg] at h
      have h := h.inF p v.fl (i := i.toNat) h8 q (wakeF v i.toNat now).fl a (woken v i.toNat now) hq2 (fun j e => upF_ne _ _ e) hq (upF_same _ _ _)
      exact Own.retE q h.fin
    cases hf : v.fl i.toNat with
    | none =>
      obtain ⟨hp, h⟩ := h.noF p v.fl h8 hf
      rw [hp]
      refine w_ite (fun _ => ?_) fun c => (by simp at c)
      refine w_drw h fun w h => w_deref (w_deref (w_ld h rfl (w_new h fun n8 w h => ⟨hi, ?_⟩)))
      refine w_setTo h b (qL v.c (upP p i.toNat (some ⟨n8, 0⟩)) l t v.n) rfl (hb _) (qL_up _ _ _ _ _ i.toNat h8 _) fun w h => ?_
      have h := h.nil KS
      have h := h.mkFlow n8 ⟨none, 0, 0⟩ ⟨cF v.c, 0, 0, []⟩
      have hp0 : plc v i.toNat = 0 := plc_0.2 ⟨fun h => (by obtain ⟨f, h2⟩ := hv.th _ h; rw [hf] at h2; cases h2), fun f h => (by rw [hf] at h; cases h)⟩
      refine ⟨hp0, (h.inq (f := fun x : (Nat → Option Pt) × Nat × Fl => blk b (qL v.c x.1 l t v.n) ^ lst l v.lv ^ tree 8 t v.ks ^ FqC.flow x.2.1 x.2.2 ^ But8 p v.fl i.toNat) (upP p i.toNat (some ⟨n8, 0⟩), n8, ⟨cF v.c, 0, 0, []⟩) ⟨⟨upP_same _ _ _, fun j e => upP_ne _ _ e⟩, ?_⟩).keep⟩
      unfold woken; rw [hf]
    | some f =>
      have hpn : (p i.toNat).isNone = false := by rw [isN h p v.fl h8, hf]; rfl
      refine w_ite (fun c => (by rw [hpn] at c; cases c)) fun _ => ?_
      refine w_call (placeI_tri b p l t v hv.lv i hi) h fun r w h => ?_
      obtain ⟨hr, h⟩ := h.purP; rw [hr]
      refine w_ite (fun c => ?_) fun c => ?_
      · have c : plc v i.toNat ≠ 0 := by simpa using c
        obtain ⟨e1, e2⟩ := wake_eq hv now c
        refine Own.retE p ?_
        rw [e1, e2]
        exact h.fin
      have c : plc v i.toNat = 0 := by simpa using c
      refine w_call (idle_tri b p l t v hv.lv i 40000000 now hi (by unfold U; omega) (fun f hf => (hv.fl _ f hf).2.si)) h fun r w h => ?_
      obtain ⟨hr, h⟩ := h.purP; rw [hr]
      obtain ⟨a, hp, h⟩ := h.outF p v.fl h8 hf
      rw [hp]
      refine w_ite (fun c2 => ?_) fun c2 => ?_
      · obtain ⟨s, h⟩ := h.flow a
        refine w_drw h fun w h => w_deref (w_deref (w_ld h rfl (w_ld h rfl (w_deref (w_setTo h a [.int .i64 (if cQ v.c > f.cr then cQ v.c else f.cr), .int .u64 f.nx, .int .u64 f.si, .sl s] rfl rfl rfl fun w h => ?_)))))
        have h := h.mkFl a s (if cQ v.c > f.cr then cQ v.c else f.cr) f.nx f.si f.sg { f with cr := if cQ v.c > f.cr then cQ v.c else f.cr } rfl
        refine ⟨c, (h.inq (f := fun x : (Nat → Option Pt) × Nat × Fl => blk b (qL v.c x.1 l t v.n) ^ lst l v.lv ^ tree 8 t v.ks ^ FqC.flow x.2.1 x.2.2 ^ But8 p v.fl i.toNat) (p, a, { f with cr := if cQ v.c > f.cr then cQ v.c else f.cr }) ⟨⟨hp, fun j e => rfl⟩, ?_⟩).keep⟩
        unfold woken; rw [hf]; simp [c, c2]
      · refine ⟨c, (h.inq (f := fun x : (Nat → Option Pt) × Nat × Fl => blk b (qL v.c x.1 l t v.n) ^ lst l v.lv ^ tree 8 t v.ks ^ FqC.flow x.2.1 x.2.2 ^ But8 p v.fl i.toNat) (p, a, f) ⟨⟨hp, fun j e => rfl⟩, ?_⟩).keep⟩
        unfold woken; rw [hf]; simp [c, c2]
theorem enq_tri (b : Nat) (v : Qm) (hv : OkQ v) (s : Sg) (now : Int) (hs : U (sFr s) ∧ U (sSt s)) (hn : U now) : Tri Tryz.prog N_fq_Queue_Enqueue [.lf (.ptr (some ⟨b, 0⟩)), .agg (Ks.mk KS s), .lf (.int .u64 now)] [.lf (.int .i64), .lf (.int .i64)] (que b v) (fun r => pur (r = (enqF v s now).1) (que b (enqF v s now).2)) :=
  tri_0 (call_fq_Queue_Enqueue (some ⟨b, 0⟩) s now) fun w0 S R h => by
    unfold W_fq_Queue_Enqueue
    refine w_new h fun n w h => w_ite (fun c => (by simp at c)) fun _ => w_ld h rfl (w_call (within_tri _ _ _) h fun r w h => ?_)
    obtain ⟨hr, h⟩ := h.purP; rw [hr]
    refine w_ite (fun c => ?_) fun c => ?_
    · have c : ¬ (0 ≤ sK s ∧ sK s ≤ 7) := by simpa only [Bool.not_eq_true', decide_eq_false_iff_not] using c
      have e : enqF v s now = ((0, 8), v) := by unfold enqF; rw [if_pos c]
      rw [e]
      exact Own.retP rfl h.fin
    have c1 : 0 ≤ sK s ∧ sK s ≤ 7 := by simpa using c
    refine w_ld h rfl (w_call (within_tri _ _ _) h fun r w h => ?_)
    obtain ⟨hr, h⟩ := h.purP; rw [hr]
    refine w_ite (fun c => ?_) fun c => ?_
    · have c : ¬ (1 ≤ sLn s ∧ sLn s ≤ 65536) := by simpa only [Bool.not_eq_true', decide_eq_false_iff_not] using c
      have e : enqF v s now = ((0, 1), v) := by unfold enqF; rw [if_neg (by simpa using c1), if_pos c]
      rw [e]
      exact Own.retP rfl h.fin
    have c2 : 1 ≤ sLn s ∧ sLn s ≤ 65536 := by simpa using c
    obtain ⟨p, l, t, h⟩ := h.que b
    refine w_call (collect_tri b p l t v hv now) h fun _ w h => ?_
    obtain ⟨p, h⟩ := h.exP
    have hc := hv.collect now
    refine w_call (fate_tri b p l t (collectF v now) hc n s now (by omega) hn) h fun r w h => ?_
    obtain ⟨hr, h⟩ := h.purP; rw [hr]
    refine w_ite (fun c => ?_) fun c => ?_
    · have c : fateF (collectF v now) s now = 0 := by simpa using c
      have e : enqF v s now = ((0, 0), addS (wakeF (collectF v now) (sK s).toNat now) (sK s).toNat (drawn v s now)) := by unfold enqF; rw [if_neg (by simpa using c1), if_neg (by simpa using c2), if_pos c]
      rw [if_pos c] at h
      rw [e, c]
      have ed : drawn (collectF v now) s now = drawn v s now := rfl
      rw [ed] at h
      have hnn : v.n < 512 := by
        unfold fateF at c
        split at c
        · cases c
        · rename_i h4
          have h5 := hc.cf.l
          have : ¬ v.n ≥ cL v.c := h4
          have h5 : 1 ≤ cL v.c ∧ cL v.c ≤ 512 := h5
          omega
      have hd : OkS (drawn v s now) := drawn_ok hv hs c2 hn
      refine w_ld h rfl (w_call (wake_tri b p l t (collectF v now) hc (sK s) now (by omega)) h fun _ w h => ?_)
      obtain ⟨p, h⟩ := h.exP
      have hw : (wakeF (collectF v now) (sK s).toNat now).fl (sK s).toNat = some (woken (collectF v now) (sK s).toNat now) := upF_same _ _ _
      have hlen : (woken (collectF v now) (sK s).toNat now).sg.length ≤ 512 := by
        rw [woken_sg]
        cases hh : (collectF v now).fl (sK s).toNat with
        | none => simp
        | some f => exact (hc.len hh).2
      refine w_drw h fun w h => w_ld h rfl (w_deref ⟨by show 0 ≤ sK s ∧ sK s < 8; omega, w_ld h (qL_at _ _ _ _ _ (sK s).toNat (by omega)) ?_⟩)
      refine w_drw h fun w h => w_ldAll (b := n) (x := drawn v s now) h rfl ?_
      obtain ⟨a, hp, h⟩ := h.outF p (wakeF (collectF v now) (sK s).toNat now).fl (i := (sK s).toNat) (by omega) hw
      rw [hp]
      obtain ⟨g, hg⟩ : ∃ g, g = woken (collectF v now) (sK s).toNat now := ⟨_, rfl⟩
      rw [← hg] at h hlen
      obtain ⟨sl, h⟩ := h.flow a
      refine w_deref (w_ld h rfl (w_new h fun n16 w h => w_chk h rfl ?_))
      have h := h.blkArr n16 KS [drawn v s now] rfl (by simp)
      refine w_app (s := sl) (x := ⟨some ⟨n16, 0⟩, 1, 1⟩) (ys := [drawn v s now]) h rfl (by show g.sg.length + 1 ≤ _; omega) fun s17 w _ h => ?_
      refine w_deref (w_setTo h a [.int .i64 g.cr, .int .u64 g.nx, .int .u64 g.si, .sl s17] rfl rfl rfl fun w h => w_deref (w_ld h rfl (w_deref ?_)))
      have h := h.mkFl a s17 g.cr g.nx g.si (g.sg ++ [drawn v s now]) { g with sg := g.sg ++ [drawn v s now] } rfl
      have h := h.inF p (wakeF (collectF v now) (sK s).toNat now).fl (i := (sK s).toNat) (by omega) p (addS (wakeF (collectF v now) (sK s).toNat now) (sK s).toNat (drawn v s now)).fl a { g with sg := g.sg ++ [drawn v s now] } (fun _ _ => rfl) (fun j e => by
        rw [FqM.add_eq]
        exact (upF_ne _ _ e).trans (upF_ne (collectF v now).fl (some (woken (collectF v now) (sK s).toNat now)) e).symm) hp (by rw [FqM.add_eq, hg]; exact upF_same _ _ _)
      have hnw : IntKind.i64.wrap (v.n + 1) = v.n + 1 := wi (by have := hv.n0; omega) (by omega)
      refine w_set h rfl fun w h => ?_
      refine Own.retP rfl ?_
      have h := h.blkEq (b := b) (L' := qL v.c p l t (v.n + 1)) (by rw [show qL v.c p l t (v.n + 1) = qL v.c p l t (IntKind.i64.wrap (v.n + 1)) by rw [hnw]]; rfl)
      have h : Own w0 S R w (blk b (qL (addS (wakeF (collectF v now) (sK s).toNat now) (sK s).toNat (drawn v s now)).c p l t (addS (wakeF (collectF v now) (sK s).toNat now) (sK s).toNat (drawn v s now)).n) ^ lst l (addS (wakeF (collectF v now) (sK s).toNat now) (sK s).toNat (drawn v s now)).lv ^ tree 8 t (addS (wakeF (collectF v now) (sK s).toNat now) (sK s).toNat (drawn v s now)).ks ^ All8 p (addS (wakeF (collectF v now) (sK s).toNat now) (sK s).toNat (drawn v s now)).fl ^ emp) := by
        rw [FqM.add_eq] at h ⊢
        exact h.fin
      exact (h.mkQue b p l t (addS (wakeF (collectF v now) (sK s).toNat now) (sK s).toNat (drawn v s now))).keep
    · have c : ¬ fateF (collectF v now) s now = 0 := by simpa using c
      have e : enqF v s now = ((fateF (collectF v now) s now, 0), collectF v now) := by unfold enqF; rw [if_neg (by simpa using c1), if_neg (by simpa using c2), if_neg c]
      rw [e]
      refine Own.retP rfl ?_
      exact (h.mkQue b p l t (collectF v now)).keep
end FqD

namespace FqE
open Arith ArithC Lists _root_.Go.X.Tree TreeC TreeD TreeE TreeF FqM FqC FqD
theorem time_tri (a : Nat) (f : Fl) (hf : f.sg ≠ []) : Tri Tryz.prog N_fq_flow_time [.lf (.ptr (some ⟨a, 0⟩))] [.lf (.int .u64)] (FqC.flow a f) (fun r => pur (r = timeF f) (FqC.flow a f)) :=
  tri_0 (call_fq_flow_time (some ⟨a, 0⟩)) fun w0 S R h => by
    unfold W_fq_flow_time
    obtain ⟨s, h⟩ := h.flow a
    cases hs : f.sg with
    | nil => exact absurd hs hf
    | cons x l =>
      rw [hs] at h
      refine w_drw h fun w h => w_deref (w_deref (w_ld h rfl (w_ld h rfl (w_idx (s := s) h (by decide) (by simp) ?_))))
      refine w_ldA h s 0 3 x rfl rfl (by decide) rfl ?_
      have h := h.mkFl a s f.cr f.nx f.si (x :: l) f (by rw [← hs])
      refine Own.retP ?_ h.fin
      unfold timeF; rw [hs]
theorem key_tri (a : Nat) (f : Fl) (hf : f.sg ≠ []) (i : Int) (hi : 0 ≤ i ∧ i < 8) : Tri Tryz.prog N_fq_key [.lf (.ptr (some ⟨a, 0⟩)), .lf (.int .i64 i)] [.agg [.int .u64, .int .u64]] (FqC.flow a f) (fun r => pur (r = (timeF f, i)) (FqC.flow a f)) :=
  tri_0 (call_fq_key (some ⟨a, 0⟩) i) fun w0 S R h => by
    unfold W_fq_key
    refine w_new h fun n w h => w_call (time_tri a f hf) h fun r w h => ?_
    obtain ⟨hr, h⟩ := h.purP; rw [hr]
    refine w_setAll h (by rfl) fun w h => w_ldAll (b := n) (x := (timeF f, IntKind.u64.wrap i)) h rfl ?_
    rw [wu (n := i) (by omega) (by omega)]
    exact Own.retP rfl h.fin
theorem send_tri (b : Nat) (p : Nat → Option Pt) (l t : Nat) (v : Qm) (hc : OkC v.c) (hn : 1 ≤ v.n ∧ v.n ≤ 512) (a : Nat) (f : Fl) (i : Nat) (hf : OkF i f) (s : Sg) (ss : List Sg) (hs : f.sg = s :: ss) (hl : f.sg.length ≤ 512) (now rate : Int) (hw : U now) (hr : U rate) :
    Tri Tryz.prog N_fq_Queue_send [.lf (.ptr (some ⟨b, 0⟩)), .lf (.ptr (some ⟨a, 0⟩)), .lf (.int .u64 now), .lf (.int .u64 rate)] [.agg KS] (blk b (qL v.c p l t v.n) ^ FqC.flow a f)
      (fun r => pur (r = s) (blk b (qL v.c p l t (v.n - 1)) ^ FqC.flow a { f with cr := f.cr - sLn s, nx := addI now (delayI (sLn s) (lessI rate (cR v.c))), sg := f.sg.tail })) :=
  tri_0 (call_fq_Queue_send (some ⟨b, 0⟩) (some ⟨a, 0⟩) now rate) fun w0 S R h => by
    unfold W_fq_Queue_send
    obtain ⟨hok, hok2⟩ := hf.sg s (by rw [hs]; simp)
    have hok3 := hok2.ln
    have hcr := hf.cr
    have hL : U (lessI rate (cR v.c)) := U_less hr hc.r
    have hD : U (delayI (sLn s) (lessI rate (cR v.c))) := U_delay (by omega) hL
    obtain ⟨sl, h⟩ := h.flow a
    have hsl := (h.rd (s := sl)).2
    have hcap := own_cap (s := sl) (K := KS) (xs := f.sg) h
    have hsl' : sl.len = ss.length + 1 := by rw [hsl, hs]; rfl
    refine w_new h fun n1 w h => w_deref (w_ld h rfl (w_idx (s := sl) h (by decide) (by rw [hs]; simp) ?_))
    refine w_ldE h sl 0 (y := s) (by rw [hs]; rfl) rfl (w_new h fun n6 w h => w_setAll h (by rfl) fun w h => w_deref (w_ld h rfl ?_))
    refine w_slc (s := sl) h 1 sl.len sl.cap rfl rfl rfl rfl (by omega) (by omega) (by omega) (by omega) fun s9 h1 h2 h => ?_
    have ht : (f.sg.take sl.len).drop 1 = f.sg.tail := by rw [List.take_of_length_le (by omega), List.drop_one]
    rw [ht] at h
    refine w_deref (w_setTo h a [.int .i64 f.cr, .int .u64 f.nx, .int .u64 f.si, .sl s9] rfl rfl rfl fun w h => ?_)
    have hnw : IntKind.i64.wrap (v.n - 1) = v.n - 1 := wi (by omega) (by omega)
    refine w_deref (w_ld h rfl (w_deref (w_setTo h b (qL v.c p l t (v.n - 1)) rfl rfl (by rw [show qL v.c p l t (v.n - 1) = qL v.c p l t (IntKind.i64.wrap (v.n - 1)) by rw [hnw]]; rfl) fun w h => ?_)))
    have hcw : IntKind.i64.wrap (f.cr - sLn s) = f.cr - sLn s := wi (by omega) (by omega)
    refine w_drw h fun w h => w_deref (w_ld h rfl (w_ld h rfl (w_deref (w_setTo h a [.int .i64 (f.cr - sLn s), .int .u64 f.nx, .int .u64 f.si, .sl s9] rfl rfl (by rw [show ([.int .i64 (f.cr - sLn s), .int .u64 f.nx, .int .u64 f.si, .sl s9] : List Lf) = [.int .i64 (IntKind.i64.wrap (f.cr - sLn s)), .int .u64 f.nx, .int .u64 f.si, .sl s9] by rw [hcw]]; rfl) fun w h => ?_))))
    refine w_drw h fun w h => w_ld h rfl (w_deref (w_ld h rfl (w_call (less_tri rate (cR v.c) hr hc.r) h fun r w h => ?_)))
    obtain ⟨he, h⟩ := h.purP; rw [he]
    refine w_chk h rfl (w_call (delay_tri (sLn s) _ (by omega) hL) h fun r w h => ?_)
    obtain ⟨he, h⟩ := h.purP; rw [he]
    refine w_call (satadd_tri _ _ hw hD) h fun r w h => ?_
    obtain ⟨he, h⟩ := h.purP; rw [he]
    refine w_deref (w_setTo h a [.int .i64 (f.cr - sLn s), .int .u64 (addI now (delayI (sLn s) (lessI rate (cR v.c)))), .int .u64 f.si, .sl s9] rfl rfl rfl fun w h => ?_)
    have h := h.mkFl a s9 (f.cr - sLn s) (addI now (delayI (sLn s) (lessI rate (cR v.c)))) f.si f.sg.tail { f with cr := f.cr - sLn s, nx := addI now (delayI (sLn s) (lessI rate (cR v.c))), sg := f.sg.tail } rfl
    refine w_ldAll (b := n6) (x := s) h rfl (w_setAll h (by rfl) fun w h => w_ldAll (b := n1) (x := s) h rfl ?_)
    exact Own.retP rfl h.fin
def hasF (v : Qm) (i : Int) : Bool := decide (0 ≤ i ∧ i ≤ 7) && (v.fl i.toNat).isSome
theorem has_tri (b : Nat) (p : Nat → Option Pt) (l t : Nat) (v : Qm) (i : Int) : Tri Tryz.prog N_fq_Queue_has [.lf (.ptr (some ⟨b, 0⟩)), .lf (.int .i64 i)] [.lf .bool] (blk b (qL v.c p l t v.n) ^ lst l v.lv ^ tree 8 t v.ks ^ All8 p v.fl) (fun r => pur (r = hasF v i) (blk b (qL v.c p l t v.n) ^ lst l v.lv ^ tree 8 t v.ks ^ All8 p v.fl)) :=
  tri_0 (call_fq_Queue_has (some ⟨b, 0⟩) i) fun w0 S R h => by
    unfold W_fq_Queue_has hasF
    refine w_ite (fun _ => ?_) fun c => (by simp at c)
    refine w_call (within_tri _ _ _) h fun r w h => ?_
    obtain ⟨hr, h⟩ := h.purP; rw [hr]
    refine w_ite (fun c => ?_) fun c => ?_
    · have c' : 0 ≤ i ∧ i ≤ 7 := of_decide_eq_true c
      refine w_deref ⟨by omega, w_ld h (qL_at _ _ _ _ _ i.toNat (by omega)) ?_⟩
      refine Own.retP ?_ h.fin
      rw [isN h p v.fl (i := i.toNat) (by omega), decide_eq_true c']
      cases v.fl i.toNat <;> rfl
    · refine Own.retP ?_ h.fin
      rw [show decide (0 ≤ i ∧ i ≤ 7) = false from c]; rfl
theorem len_tri (b : Nat) (v : Qm) : Tri Tryz.prog N_fq_Queue_Len [.lf (.ptr (some ⟨b, 0⟩))] [.lf (.int .i64)] (que b v) (fun r => pur (r = v.n) (que b v)) :=
  tri_0 (call_fq_Queue_Len (some ⟨b, 0⟩)) fun w0 S R h => by
    unfold W_fq_Queue_Len
    refine w_ite (fun c => (by simp at c)) fun _ => ?_
    obtain ⟨p, l, t, h⟩ := h.que b
    refine w_deref (w_ld h rfl ?_)
    exact Own.retP rfl (h.mkQue b p l t v).fin
theorem set_tri (b : Nat) (v : Qm) (c : Cf) : Tri Tryz.prog N_fq_Queue_Set [.lf (.ptr (some ⟨b, 0⟩)), .agg (Ks.mk KC c)] [.lf (.int .i64)] (que b v) (fun r => pur (r = (setF v c).1) (que b (setF v c).2)) :=
  tri_0 (call_fq_Queue_Set (some ⟨b, 0⟩) c) fun w0 S R h => by
    unfold W_fq_Queue_Set setF
    refine w_new h fun n1 w h => w_ite (fun c => (by simp at c)) fun _ => w_ldAll (b := n1) (x := c) h rfl (w_call (may_tri c) h fun r w h => ?_)
    obtain ⟨hr, h⟩ := h.purP; rw [hr]
    refine w_ite (fun c1 => ?_) fun c1 => ?_
    · rw [if_neg (by simpa using c1)]
      exact Own.retP rfl h.fin
    · rw [if_pos (by simpa using c1)]
      obtain ⟨p, l, t, h⟩ := h.que b
      refine w_ldAll (b := n1) (x := c) h rfl (w_deref (w_setTo h b (qL c p l t v.n) rfl rfl rfl fun w h => ?_))
      exact Own.retP rfl (h.mkQue b p l t { v with c := c }).fin
theorem new_tri (c : Cf) : Tri Tryz.prog N_fq_New [.agg (Ks.mk KC c)] [.lf .ptr, .lf (.int .i64)] emp (fun r => ex fun b : Nat => pur (r = if may c then (some ⟨b, 0⟩, 0) else (none, 13)) (if may c then que b (newF c) else emp)) :=
  tri_0 (call_fq_New c) fun w0 S R h => by
    unfold W_fq_New
    refine w_new h fun n1 w h => w_ldAll (b := n1) (x := c) h rfl (w_call (may_tri c) h fun r w h => ?_)
    obtain ⟨hr, h⟩ := h.purP; rw [hr]
    refine w_ite (fun c1 => ?_) fun c1 => ?_
    · have c1 : ¬ may c = true := by simpa using c1
      refine Own.retE 0 (Own.retP ?_ ?_)
      · rw [if_neg c1]
      · rw [if_neg c1]; exact h.emp'
    · have c1 : may c = true := by simpa using c1
      refine w_drw h fun w h => w_ldAll (b := n1) (x := c) h rfl (w_call Lists.new_tri h fun r w h => ?_)
      obtain ⟨l, h⟩ := h.exP
      obtain ⟨hr, h⟩ := h.purP; rw [hr]
      refine w_chkAll (b := n1) h (w_call (TreeC.new_tri 8) h fun r w h => ?_)
      obtain ⟨t, h⟩ := h.exP
      obtain ⟨hr, h⟩ := h.purP; rw [hr]
      refine w_chkAll (b := n1) h (w_new h fun b w h => ?_)
      have hA : Own w0 S R w (All8 (fun _ => none) (fun _ => none) ^ tree 8 t [] ^ lst l ([], []) ^ blk b (qL c (fun _ => none) l t 0) ^ emp) := by
        have h : Own w0 S R w (emp ^ emp ^ emp ^ emp ^ emp ^ emp ^ emp ^ emp ^ emp ^ tree 8 t [] ^ lst l ([], []) ^ blk b (qL c (fun _ => none) l t 0) ^ emp) := by
          have h : Own w0 S R w (tree (room 8) t [] ^ lst l ([], []) ^ blk b (qL c (fun _ => none) l t 0) ^ emp) := h.fin
          have hE : ∀ {F : SP}, Own w0 S R w F → Own w0 S R w (emp ^ F) := fun h => h.le ((star_emp _).trans (star_comm _ _))
          exact hE (hE (hE (hE (hE (hE (hE (hE (hE h))))))))
        have hp : ∀ {F : SP}, Le (emp ^ F) (flowP none none ^ F) := star_mono (fun _ _ _ h => ⟨rfl, h⟩) Le.rfl
        have e : All8 (fun _ => none) (fun _ => none) = flowP none none ^ flowP none none ^ flowP none none ^ flowP none none ^ flowP none none ^ flowP none none ^ flowP none none ^ flowP none none ^ emp := rfl
        rw [e]
        refine h.le (Le.trans ?_ (star_assoc' _ _ _))
        refine hp.trans (star_mono Le.rfl (Le.trans ?_ (star_assoc' _ _ _)))
        refine hp.trans (star_mono Le.rfl (Le.trans ?_ (star_assoc' _ _ _)))
        refine hp.trans (star_mono Le.rfl (Le.trans ?_ (star_assoc' _ _ _)))
        refine hp.trans (star_mono Le.rfl (Le.trans ?_ (star_assoc' _ _ _)))
        refine hp.trans (star_mono Le.rfl (Le.trans ?_ (star_assoc' _ _ _)))
        refine hp.trans (star_mono Le.rfl (Le.trans ?_ (star_assoc' _ _ _)))
        refine hp.trans (star_mono Le.rfl (Le.trans ?_ (star_assoc' _ _ _)))
        exact hp.trans (star_mono Le.rfl Le.rfl)
      refine Own.retE b (Own.retP ?_ ?_)
      · rw [if_pos c1]
      · rw [if_pos c1]
        exact (hA.mkQue b (fun _ => none) l t (newF c)).keep
theorem min_tri (b : Nat) (v : Qm) : Tri Tryz.prog N_fq_Queue_Watchdog [.lf (.ptr (some ⟨b, 0⟩))] [.lf (.int .u64), .lf .bool] (que b v) (fun r => pur (r = ((minF v.ks).1.1, (minF v.ks).2)) (que b v)) :=
  tri_0 (call_fq_Queue_Watchdog (some ⟨b, 0⟩)) fun w0 S R h => by
    unfold W_fq_Queue_Watchdog
    refine w_ite (fun c => (by simp at c)) fun _ => ?_
    obtain ⟨p, l, t, h⟩ := h.que b
    refine w_deref (w_ld h rfl (w_call (TreeF.min_tri t 8 v.ks) h fun r w h => ?_))
    obtain ⟨hr, h⟩ := h.purP; rw [hr]
    refine w_new h fun n w h => w_setAll h (by rfl) fun w h => w_ld h rfl ?_
    exact Own.retP rfl (h.mkQue b p l t v).fin
abbrev KF : Ks := [.int .i64, .int .i64, .int .i64, .int .u64, .int .u64, .sl]
abbrev noF : Int × Int × Int × Int × Int × Sl := (0, 0, 0, 0, 0, ⟨none, 0, 0⟩)
def seenF (v : Qm) (i : Int) (s : Sl) : (Int × Int × Int × Int × Int × Sl) × Bool := if hasF v i then match v.fl i.toNat with
  | some f => ((i, f.cr, plc v i.toNat, f.nx, f.si, s), true)
  | none => (noF, false)
  else (noF, false)
def sgF (v : Qm) (i : Int) : List Sg := if hasF v i then match v.fl i.toNat with
  | some f => f.sg
  | none => []
  else []
theorem flow_tri (b : Nat) (v : Qm) (hv : OkQ v) (i : Int) : Tri Tryz.prog N_fq_Queue_Flow [.lf (.ptr (some ⟨b, 0⟩)), .lf (.int .i64 i)] [.agg KF, .lf .bool] (que b v) (fun r => ex fun s : Sl => pur (r = seenF v i s) (arr s KS (sgF v i) ^ que b v)) :=
  tri_0 (call_fq_Queue_Flow (some ⟨b, 0⟩) i) fun w0 S R h => by
    unfold W_fq_Queue_Flow
    obtain ⟨p, l, t, h⟩ := h.que b
    refine w_new h fun n1 w h => w_call (has_tri b p l t v i) h fun r w h => ?_
    obtain ⟨hr, h⟩ := h.purP; rw [hr]
    refine w_ite (fun c => ?_) fun c => ?_
    · have c : hasF v i = false := by simpa using c
      refine w_setAll h (by rfl) fun w h => w_ldAll (b := n1) (x := noF) h rfl ?_
      have h := (h.mkQue b p l t v).nil KS
      have e : sgF v i = [] := by unfold sgF; rw [if_neg (by rw [c]; simp)]
      refine Own.retE ⟨none, 0, 0⟩ (Own.retP ?_ ?_)
      · unfold seenF; rw [if_neg (by rw [c]; simp)]
      · rw [e]; exact h.fin
    · have c : hasF v i = true := by simpa using c
      have c' := c
      unfold hasF at c'
      simp only [Bool.and_eq_true, decide_eq_true_eq, Option.isSome_iff_exists] at c'
      obtain ⟨hi, f, hf⟩ := c'
      have e : sgF v i = f.sg := by unfold sgF; rw [if_pos c, hf]
      have hlen := (hv.len hf).2
      refine w_deref ⟨by omega, w_ld h (qL_at _ _ _ _ _ i.toNat (by omega)) (w_drw h fun w h => ?_)⟩
      obtain ⟨a, hp, h1⟩ := h.outF p v.fl (i := i.toNat) (by omega) hf
      rw [hp]
      obtain ⟨s, h⟩ := h1.flow a
      refine w_deref (w_deref (w_deref (w_deref (w_ld h rfl (w_ld h rfl (w_ld h rfl (w_ld h rfl ?_)))))))
      refine w_call (placeO_tri b p l t v hv.lv i (by omega) a s f hf hp) h fun r w h => ?_
      obtain ⟨hr, h⟩ := h.purP; rw [hr]
      refine w_chk h rfl (w_chk h rfl (w_chk h rfl (w_chk h rfl ?_)))
      refine w_callL (clone_tri s f.sg (by omega)) h fun s2 w h => ?_
      refine w_chk h rfl (w_chk h rfl (w_chk h rfl (w_setAll h (by rfl) fun w h => w_ldAll (b := n1) (x := (i, f.cr, plc v i.toNat, f.nx, f.si, s2)) h rfl ?_)))
      have h := h.mkFlow a s f
      have h := h.inF p v.fl (i := i.toNat) (by omega) p v.fl a f (fun _ _ => rfl) (fun _ _ => rfl) hp hf
      have h := h.mkQue b p l t v
      refine Own.retE s2 (Own.retP ?_ ?_)
      · unfold seenF; rw [if_pos c, hf]
      · rw [e]; exact h.fin
theorem close_tri (b : Nat) (v : Qm) (hv : OkQ v) (i : Int) : Tri Tryz.prog N_fq_Queue_Close [.lf (.ptr (some ⟨b, 0⟩)), .lf (.int .i64 i)] [.lf .sl] (que b v) (fun r => arr r KS (closeF v i).1 ^ que b (closeF v i).2) :=
  tri_0 (call_fq_Queue_Close (some ⟨b, 0⟩) i) fun w0 S R h => by
    unfold W_fq_Queue_Close
    obtain ⟨p, l, t, h⟩ := h.que b
    refine w_call (has_tri b p l t v i) h fun r w h => ?_
    obtain ⟨hr, h⟩ := h.purP; rw [hr]
    refine w_ite (fun c => ?_) fun c => ?_
    · have c : hasF v i = false := by simpa using c
      have h := (h.mkQue b p l t v).nil KS
      have e : closeF v i = ([], v) := by
        unfold closeF
        split
        · rfl
        · rename_i hi
          have hi : 0 ≤ i ∧ i ≤ 7 := Decidable.not_not.1 hi
          unfold hasF at c
          rw [decide_eq_true hi] at c
          cases hf : v.fl i.toNat with
          | none => rfl
          | some f => rw [hf] at c; cases c
      rw [e]
      exact h.fin
    · have c : hasF v i = true := by simpa using c
      unfold hasF at c
      simp only [Bool.and_eq_true, decide_eq_true_eq, Option.isSome_iff_exists] at c
      obtain ⟨hi, f, hf⟩ := c
      have hlen := hv.len hf
      have hi8 : i.toNat < 8 := by omega
      have hi' : ((i.toNat : Nat) : Int) = i := by omega
      have hl := hv.lv.few
      have hn := hv.le
      have hn0 := hv.n0
      refine w_deref ⟨by omega, w_ld h (qL_at _ _ _ _ _ i.toNat hi8) ?_⟩
      obtain ⟨a, hp, h⟩ := h.outF p v.fl hi8 hf
      rw [hp]
      refine w_join h (fun _ => blk b (qL v.c p l t v.n) ^ lst l v.lv ^ tree 8 t (closeF v i).2.ks ^ FqC.flow a f ^ But8 p v.fl i.toNat) (fun _ => True) (fun _ w _ h => ?_) ?_
      · refine w_deref (w_ld h rfl (w_call (remove_tri l v.lv i (by omega)) h fun r w h => ?_))
        obtain ⟨_, h⟩ := h.purP
        rw [show (removeF v.lv i).2 = outF v.lv i from rfl] at h
        refine w_deref ⟨by omega, ?_⟩
        refine w_setTo h b (qL v.c (upP p i.toNat none) l t v.n) rfl (Nat.ble_eq_true_of_le (by show 0 + 9 + i.toNat * 1 + 1 ≤ 20; omega)) (qL_up _ _ _ _ _ i.toNat hi8 none) fun w h => ?_
        obtain ⟨s, h⟩ := h.flow a
        have hs := (h.rd (s := s)).2
        have hnw : IntKind.i64.wrap (v.n - ((s.len : Nat) : Int)) = v.n - f.sg.length := by rw [hs]; exact wi (by omega) (by omega)
        refine w_drw h fun w h => w_deref (w_deref (w_ld h rfl (w_ld h rfl (w_deref ?_))))
        refine w_setTo h b (qL v.c (upP p i.toNat none) l t (v.n - f.sg.length)) rfl rfl (by rw [← hnw]; rfl) fun w h => ?_
        refine w_deref (w_ld h rfl ?_)
        refine w_callL (clone_tri s f.sg (by omega)) h fun s2 w h => ?_
        have h := h.inN p v.fl hi8 (upP p i.toNat none) (upF v.fl i.toNat none) (fun j e => upP_ne _ _ e) (fun j e => upF_ne _ _ e) (upP_same _ _ _) (upF_same _ _ _)
        have e : closeF v i = (f.sg, { v with fl := upF v.fl i.toNat none, lv := outF v.lv i, ks := (closeF v i).2.ks, n := v.n - f.sg.length }) := by
          unfold closeF
          rw [if_neg (fun x => x hi), hf]
        have h := h.mkQue b (upP p i.toNat none) l t { v with fl := upF v.fl i.toNat none, lv := outF v.lv i, ks := (closeF v i).2.ks, n := v.n - f.sg.length }
        rw [← show (closeF v i).2 = { v with fl := upF v.fl i.toNat none, lv := outF v.lv i, ks := (closeF v i).2.ks, n := v.n - f.sg.length } from congrArg Prod.snd e] at h
        have e1 : (closeF v i).1 = f.sg := congrArg Prod.fst e
        rw [e1]
        exact h.fin
      · obtain ⟨s, h⟩ := h.flow a
        refine w_call (placeO_tri b p l t v hv.lv i (by omega) a s f hf hp) h fun r w h => ?_
        obtain ⟨hr, h⟩ := h.purP; rw [hr]
        have h := h.mkFlow a s f
        have ek : (closeF v i).2.ks = if plc v i.toNat = 3 then v.ks.erase (timeF f, i) else v.ks := by
          unfold closeF
          rw [if_neg (fun x => x hi), hf]
        rw [ek]
        refine w_ite (fun c => ?_) fun c => ?_
        · have c : plc v i.toNat = 3 := by simpa using c
          obtain ⟨h3, g, hg, hg2⟩ := plc_3.1 c
          rw [hf] at hg
          cases hg
          have hk : (timeF f, i) ∈ v.ks := (hv.ks _).2 ⟨i.toNat, f, hf, hg2, h3, by rw [hi']⟩
          refine w_drw h fun w h => w_deref (w_ld h rfl (w_call (key_tri a f hg2 i (by omega)) h fun r w h => ?_))
          obtain ⟨hr, h⟩ := h.purP; rw [hr]
          refine w_chk h rfl (w_call (delete_tri t 8 v.ks (timeF f, i)) h fun r w h => ?_)
          obtain ⟨_, h⟩ := h.purP
          rw [if_pos c]
          have ed : delK v.ks (timeF f, i) = (0, v.ks.erase (timeF f, i)) := by unfold delK; rw [if_pos hk]
          rw [ed] at h
          exact ⟨trivial, h.fin⟩
        · have c : ¬ plc v i.toNat = 3 := by simpa using c
          rw [if_neg c]
          exact ⟨trivial, h.fin⟩
end FqE


end Go.X
