/- Contracts and plain facts: U64s. -/
import Derived.Test.YtjahkildlilabaaBPlain
import Derived.Test.YtjahkildlilabaaXw
import Derived.Test.YtjahkildlilabaaK
import Derived.Test.YtjahkildlilabaaF0
import Derived.Test.YtjahkildlilabaaF1
set_option linter.unusedVariables false
set_option linter.unusedSimpArgs false
set_option linter.unusedSectionVars false
namespace Go.X
open Go.Proofs
namespace U64s
theorem u64_same_tri (a b : Sl) (one : Fv) (C : SP) (xs ys : List (Ks.T KU)) (Q : Ks.T KU → Ks.T KU → Prop) (hl : xs.length ≤ 4294967296) (hf : ∀ x ∈ xs, ∀ y ∈ ys, TriV Try.prog one [.lf (.int .u64 x), .lf (.int .u64 y)] [.lf .bool] C (fun r => pur ((r = true) ↔ Q x y) C)) :
    Tri Try.prog N_canterhelp_Same_uint64 [.lf (.sl a), .lf (.sl b), .lf (.fn one)] [.lf .bool] (C ^ rarr a KU xs ^ rarr b KU ys) (fun r => pur ((r = true) ↔ AllP Q xs ys) C) :=
  tri_0 (call_canterhelp_Same_uint64 _ _ _) fun w S R h => by
    unfold W_canterhelp_Same_uint64
    have ha := (h.drop.rd (s := a)).2
    have hb := ((h.take (rarr b KU ys)).rd (s := b)).2
    refine w_ite (fun c => ?_) fun c => ?_
    · rw [ha, hb] at c
      exact Own.retP ⟨fun h => (by cases h), fun h => by have := AllP_len h; simp at c; omega⟩ h.fin
    · rw [ha, hb] at c
      have c : xs.length = ys.length := by simp at c; omega
      refine w_loop (fun _ => rarr a KU xs ^ rarr b KU ys ^ C) (fun (i : Int) => 0 ≤ i ∧ i.toNat ≤ xs.length ∧ (AllP Q xs ys ↔ AllP Q (xs.drop i.toNat) (ys.drop i.toNat))) (fun (i : Int) => xs.length - i.toNat) h.fin ⟨Int.le_refl 0, Nat.zero_le _, Iff.rfl⟩ ?_
      rintro (i : Int) w ⟨h0, h1, h2⟩ h
      refine w_ite (fun c2 => ?_) fun c2 => ?_
      · have hi : i.toNat < xs.length := by simp at c2; omega
        have hi2 : i.toNat < ys.length := by omega
        refine w_drw h fun w h => ?_
        refine w_idx h h0 hi ?_
        have hb' := h.le (star_swap _ _ _)
        refine w_idx hb' h0 hi2 ?_
        refine w_ldE h a i.toNat (at_some hi) rfl ?_
        refine w_ldE hb' b i.toNat (at_some hi2) rfl ?_
        refine w_callv (hf _ (List.getElem_mem hi) _ (List.getElem_mem hi2)) h fun r w h => ?_
        obtain ⟨hr, h⟩ := h.purP
        rw [List.drop_eq_getElem_cons hi, List.drop_eq_getElem_cons hi2, AllP, ← hr] at h2
        refine w_ite (fun c3 => ?_) fun c3 => ?_
        · have c3 : r = false := by simpa using c3
          rw [c3] at h2
          exact Own.retP ⟨fun h => (by cases h), fun h => by have := (h2.1 h).1; cases this⟩ h.fin
        · have c3 : r = true := by simpa using c3
          rw [c3] at h2
          have h2 : AllP Q xs ys ↔ AllP Q (xs.drop (i.toNat + 1)) (ys.drop (i.toNat + 1)) := h2.trans ⟨fun h => h.2, fun h => ⟨rfl, h⟩⟩
          have e : (i + 1).toNat = i.toNat + 1 := by omega
          rw [wi (by omega) (by omega)]
          exact ⟨⟨⟨by show (0 : Int) ≤ i + 1; omega, by show (i + 1).toNat ≤ _; omega, by show _ ↔ AllP Q (xs.drop (i + 1).toNat) (ys.drop (i + 1).toNat); rw [e]; exact h2⟩, h.fin⟩, by show _ - (i + 1).toNat < _; omega⟩
      · have hi : i.toNat = xs.length := by simp at c2; omega
        rw [hi, List.drop_length, c, List.drop_length, AllP] at h2
        exact Own.retP ⟨fun _ => h2.2 trivial, fun _ => rfl⟩ h.fin

theorem u64_one_tri (x y : Ks.T KU) : Tri Try.prog N_canterhelp_Plain_uint64_c1 [.lf (.int .u64 x), .lf (.int .u64 y)] [.lf .bool] emp (fun r => pur ((r = true) ↔ x = y) emp) :=
  tri_0 (call_canterhelp_Plain_uint64_c1 _ _) fun w S R h => by
    unfold W_canterhelp_Plain_uint64_c1
    repeat' (first
      | (refine w_drw h fun w h => ?_)
      | (refine w_deref ?_)
      | (refine w_ldAll h rfl ?_)
      | (refine w_ld h rfl ?_)
      | (refine w_chkAll h ?_)
      | (refine w_chk h rfl ?_)
      | (refine w_setAll h (by rfl) fun w h => ?_)
      | (refine w_new h fun n w h => ?_)
      | (refine w_leave h fun w h => ?_)
      | (refine w_set h rfl fun w h => ?_; dsimp only [upd, over] at h))
    all_goals exact Own.retP (by simp [Prod.ext_iff]) h.emp'
theorem u64_plain_tri (a b : Sl) (xs ys : List (Ks.T KU)) (hl : xs.length ≤ 4294967296) :
    Tri Try.prog N_canterhelp_Plain_uint64 [.lf (.sl a), .lf (.sl b)] [.lf .bool] (emp ^ rarr a KU xs ^ rarr b KU ys) (fun r => pur ((r = true) ↔ xs = ys) emp) :=
  tri_0 (call_canterhelp_Plain_uint64 _ _) fun w S R h => by
    unfold W_canterhelp_Plain_uint64
    refine w_call (u64_same_tri a b _ emp xs ys Eq hl (fun x _ y _ => (Tri.g (f := N_canterhelp_Plain_uint64_c1) (args := [.lf (.int .u64 x), .lf (.int .u64 y)]) (caps := []) (u64_one_tri x y)).v)) h fun r w h => ?_
    obtain ⟨hr, h⟩ := h.purP
    exact Own.retP (hr.trans (AllP_eq xs ys)) h.keep

end U64s

end Go.X
