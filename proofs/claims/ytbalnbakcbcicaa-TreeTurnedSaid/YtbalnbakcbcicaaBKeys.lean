/- Contracts and plain facts: Keys. -/
import Derived.Test.YtbalnbakcbcicaaBPlain
import Derived.Test.YtbalnbakcbcicaaXw
import Derived.Test.YtbalnbakcbcicaaK
import Derived.Test.YtbalnbakcbcicaaF0
set_option linter.unusedVariables false
set_option linter.unusedSimpArgs false
set_option linter.unusedSectionVars false
namespace Go.X
open Go.Proofs
namespace Keys
theorem key_same_tri (a b : Sl) (one : Fv) (C : SP) (xs ys : List (Ks.T KR)) (Q : Ks.T KR → Ks.T KR → Prop) (hl : xs.length ≤ 4294967296) (hf : ∀ x ∈ xs, ∀ y ∈ ys, TriV Try.prog one [.agg (Ks.mk KR x), .agg (Ks.mk KR y)] [.lf .bool] C (fun r => pur ((r = true) ↔ Q x y) C)) :
    Tri Try.prog N_canterhelp_Same_apiKey [.lf (.sl a), .lf (.sl b), .lf (.fn one)] [.lf .bool] (C ^ rarr a KR xs ^ rarr b KR ys) (fun r => pur ((r = true) ↔ AllP Q xs ys) C) :=
  tri_0 (call_canterhelp_Same_apiKey _ _ _) fun w S R h => by
    unfold W_canterhelp_Same_apiKey
    have ha := (h.drop.rd (s := a)).2
    have hb := ((h.take (rarr b KR ys)).rd (s := b)).2
    refine w_ite (fun c => ?_) fun c => ?_
    · rw [ha, hb] at c
      exact Own.retP ⟨fun h => (by cases h), fun h => by have := AllP_len h; simp at c; omega⟩ h.fin
    · rw [ha, hb] at c
      have c : xs.length = ys.length := by simp at c; omega
      refine w_loop (fun _ => rarr a KR xs ^ rarr b KR ys ^ C) (fun (i : Int) => 0 ≤ i ∧ i.toNat ≤ xs.length ∧ (AllP Q xs ys ↔ AllP Q (xs.drop i.toNat) (ys.drop i.toNat))) (fun (i : Int) => xs.length - i.toNat) h.fin ⟨Int.le_refl 0, Nat.zero_le _, Iff.rfl⟩ ?_
      rintro (i : Int) w ⟨h0, h1, h2⟩ h
      refine w_ite (fun c2 => ?_) fun c2 => ?_
      · have hi : i.toNat < xs.length := by simp at c2; omega
        have hi2 : i.toNat < ys.length := by omega
        refine w_drw h fun w h => ?_
        refine w_idx h h0 hi ?_
        have hb' := h.le (star_swap _ _ _)
        refine w_idx hb' h0 hi2 ?_
        refine w_ldE h a i.toNat (at_some hi) rfl ?_
        refine w_ldE hb' b i.toNat (at_some hi2) rfl ?_
        refine w_callv (hf _ (List.getElem_mem hi) _ (List.getElem_mem hi2)) h fun r w h => ?_
        obtain ⟨hr, h⟩ := h.purP
        rw [List.drop_eq_getElem_cons hi, List.drop_eq_getElem_cons hi2, AllP, ← hr] at h2
        refine w_ite (fun c3 => ?_) fun c3 => ?_
        · have c3 : r = false := by simpa using c3
          rw [c3] at h2
          exact Own.retP ⟨fun h => (by cases h), fun h => by have := (h2.1 h).1; cases this⟩ h.fin
        · have c3 : r = true := by simpa using c3
          rw [c3] at h2
          have h2 : AllP Q xs ys ↔ AllP Q (xs.drop (i.toNat + 1)) (ys.drop (i.toNat + 1)) := h2.trans ⟨fun h => h.2, fun h => ⟨rfl, h⟩⟩
          have e : (i + 1).toNat = i.toNat + 1 := by omega
          rw [wi (by omega) (by omega)]
          exact ⟨⟨⟨by show (0 : Int) ≤ i + 1; omega, by show (i + 1).toNat ≤ _; omega, by show _ ↔ AllP Q (xs.drop (i + 1).toNat) (ys.drop (i + 1).toNat); rw [e]; exact h2⟩, h.fin⟩, by show _ - (i + 1).toNat < _; omega⟩
      · have hi : i.toNat = xs.length := by simp at c2; omega
        rw [hi, List.drop_length, c, List.drop_length, AllP] at h2
        exact Own.retP ⟨fun _ => h2.2 trivial, fun _ => rfl⟩ h.fin

theorem key_one_tri (x y : Ks.T KR) : Tri Try.prog N_canterhelp_Plain_apiKey_c1 [.agg (Ks.mk KR x), .agg (Ks.mk KR y)] [.lf .bool] emp (fun r => pur ((r = true) ↔ x = y) emp) :=
  tri_0 (call_canterhelp_Plain_apiKey_c1 _ _) fun w S R h => by
    unfold W_canterhelp_Plain_apiKey_c1
    repeat' (first
      | (refine w_drw h fun w h => ?_)
      | (refine w_deref ?_)
      | (refine w_ldAll h rfl ?_)
      | (refine w_ld h rfl ?_)
      | (refine w_chkAll h ?_)
      | (refine w_chk h rfl ?_)
      | (refine w_setAll h (by rfl) fun w h => ?_)
      | (refine w_new h fun n w h => ?_)
      | (refine w_leave h fun w h => ?_)
      | (refine w_set h rfl fun w h => ?_; dsimp only [upd, over] at h))
    all_goals exact Own.retP (by simp [Prod.ext_iff]) h.emp'
theorem key_plain_tri (a b : Sl) (xs ys : List (Ks.T KR)) (hl : xs.length ≤ 4294967296) :
    Tri Try.prog N_canterhelp_Plain_apiKey [.lf (.sl a), .lf (.sl b)] [.lf .bool] (emp ^ rarr a KR xs ^ rarr b KR ys) (fun r => pur ((r = true) ↔ xs = ys) emp) :=
  tri_0 (call_canterhelp_Plain_apiKey _ _) fun w S R h => by
    unfold W_canterhelp_Plain_apiKey
    refine w_call (key_same_tri a b _ emp xs ys Eq hl (fun x _ y _ => (Tri.g (f := N_canterhelp_Plain_apiKey_c1) (args := [.agg (Ks.mk KR x), .agg (Ks.mk KR y)]) (caps := []) (key_one_tri x y)).v)) h fun r w h => ?_
    obtain ⟨hr, h⟩ := h.purP
    exact Own.retP (hr.trans (AllP_eq xs ys)) h.keep

theorem key_hall_tri (f : Fv) (C : SP) (xs : List (Ks.T KR)) (most : Int) (it : Iter Try.prog f C [.agg KR] xs) (hf : isNilF f = false) (hl : xs.length ≤ 4294967295) :
    Tri Try.prog N_canterhelp_All_apiKey [.lf (.fn f), .lf (.int .i64 most)] [.lf .sl] C (fun s => C ^ arr s KR (takeN xs most)) :=
  tri_0 (call_canterhelp_All_apiKey f most) fun w S R h => by
    unfold W_canterhelp_All_apiKey
    refine w_new h fun n1 w h => ?_
    refine w_new h fun n2 w h => ?_
    refine w_ite (fun c => by rw [hf] at c; cases c) fun c => ?_
    -- what is gathered
    have hy : ∀ i x, xs[i]? = some x → TriV Try.prog (.mk (.func N_canterhelp_All_apiKey_c1) [] [V1.enc (.lf (.ptr (some ⟨n2, 0⟩))), V1.enc (.lf (.ptr (some ⟨n1, 0⟩)))]) (Rs.mk [.agg KR] x) [.lf .bool]
        (ex fun s => pur (i < max 1 most.toNat) (blk n2 [.sl s] ^ blk n1 [.int .i64 most] ^ arr s KR (xs.take i)))
        (fun c => cond c (ex fun s => pur (i + 1 < max 1 most.toNat) (blk n2 [.sl s] ^ blk n1 [.int .i64 most] ^ arr s KR (xs.take (i + 1)))) (ex fun s => blk n2 [.sl s] ^ arr s KR (takeN xs most))) := by
      intro i x hx
      have hi : i < xs.length := (List.getElem?_eq_some_iff.1 hx).1
      refine (Tri.g (f := N_canterhelp_All_apiKey_c1) (args := [.agg (Ks.mk KR x)]) (caps := [.lf (.ptr (some ⟨n2, 0⟩)), .lf (.ptr (some ⟨n1, 0⟩))]) (tri_0 (call_canterhelp_All_apiKey_c1 x ⟨n2, 0⟩ ⟨n1, 0⟩) fun w S R h => ?_)).v
      unfold W_canterhelp_All_apiKey_c1
      refine w_new h fun m1 w h => ?_
      obtain ⟨s, h⟩ := (h.take (ex fun s => pur (i < max 1 most.toNat) (blk n2 [.sl s] ^ blk n1 [.int .i64 most] ^ arr s KR (xs.take i)))).exP
      obtain ⟨hlt, h⟩ := h.purP
      refine w_ld h rfl ?_
      refine w_ldAll h rfl ?_
      refine w_new h fun m2 w h => ?_
      have h := h.blkArr m2 KR [x] rfl (by simp)
      have htl : (xs.take i).length = i := by rw [List.length_take]; omega
      refine w_app h rfl (by rw [htl]; simp; omega) fun s5 w hs h => ?_
      refine w_set h rfl fun w h => ?_
      dsimp only [upd, over] at h
      refine w_ld h rfl ?_
      refine w_ld h rfl ?_
      have htk : xs.take i ++ [x] = xs.take (i + 1) := by rw [List.take_add_one, hx]; rfl
      rw [htl] at hs
      simp only [List.length_singleton] at hs
      rw [htk] at h
      by_cases hc : ((s5.len : Nat) : Int) < most
      · rw [decide_eq_true hc]
        exact Own.retE s5 (Own.retP (by omega) h.fin)
      · rw [decide_eq_false hc]
        have e : takeN xs most = xs.take (i + 1) := by rw [takeN]; congr 1; omega
        rw [e]
        exact Own.retE s5 h.fin
    have hit := (it _ _ _ hy).v
    have h := (h.nil KR).take (blk n2 [.sl ⟨none, 0, 0⟩] ^ blk n1 [.int .i64 most] ^ arr ⟨none, 0, 0⟩ KR [])
    have h := h.toPur (p := 0 < max 1 most.toNat) (by omega)
    have h := h.toEx (f := fun s => pur (0 < max 1 most.toNat) (blk n2 [.sl s] ^ blk n1 [.int .i64 most] ^ arr s KR (xs.take 0))) ⟨none, 0, 0⟩
    refine w_callv hit h fun r w h => ?_
    have h := h.take (either (ex fun s => pur (xs.length < max 1 most.toNat) (blk n2 [.sl s] ^ blk n1 [.int .i64 most] ^ arr s KR (xs.take xs.length))) (ex fun s => blk n2 [.sl s] ^ arr s KR (takeN xs most)))
    obtain ⟨b, h⟩ := h.exP
    cases b with
    | true =>
      have h : Own _ _ _ _ ((ex fun s => pur (xs.length < max 1 most.toNat) (blk n2 [.sl s] ^ blk n1 [.int .i64 most] ^ arr s KR (xs.take xs.length))) ^ _) := h
      obtain ⟨s, h⟩ := h.exP
      obtain ⟨hlt, h⟩ := h.purP
      refine w_ld h rfl ?_
      have e : takeN xs most = xs.take xs.length := by rw [takeN, List.take_of_length_le (by omega), List.take_length]
      rw [e]
      exact h.fin
    | false =>
      have h : Own _ _ _ _ ((ex fun s => blk n2 [.sl s] ^ arr s KR (takeN xs most)) ^ _) := h
      obtain ⟨s, h⟩ := h.exP
      refine w_ld h rfl ?_
      exact h.fin

end Keys

end Go.X
