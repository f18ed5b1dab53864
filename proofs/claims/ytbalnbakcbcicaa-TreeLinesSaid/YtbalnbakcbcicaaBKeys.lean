/- Contracts and plain facts: Keys. -/
import Derived.Test.YtbalnbakcbcicaaBPlain
import Derived.Test.YtbalnbakcbcicaaXw
import Derived.Test.YtbalnbakcbcicaaK
import Derived.Test.YtbalnbakcbcicaaF0
set_option linter.unusedVariables false
set_option linter.unusedSimpArgs false
set_option linter.unusedSectionVars false
namespace Go.X
open Go.Proofs
namespace Keys
theorem key_hall_tri (f : Fv) (C : SP) (xs : List (Ks.T KR)) (most : Int) (it : Iter Try.prog f C [.agg KR] xs) (hf : isNilF f = false) (hl : xs.length ≤ 4294967295) :
    Tri Try.prog N_canterhelp_All_apiKey [.lf (.fn f), .lf (.int .i64 most)] [.lf .sl] C (fun s => C ^ arr s KR (takeN xs most)) :=
  tri_0 (call_canterhelp_All_apiKey f most) fun w S R h => by
    unfold W_canterhelp_All_apiKey
    refine w_new h fun n1 w h => ?_
    refine w_new h fun n2 w h => ?_
    refine w_ite (fun c => by rw [hf] at c; cases c) fun c => ?_
    -- what is gathered
    have hy : ∀ i x, xs[i]? = some x → TriV Try.prog (.mk (.func N_canterhelp_All_apiKey_c1) [] [V1.enc (.lf (.ptr (some ⟨n2, 0⟩))), V1.enc (.lf (.ptr (some ⟨n1, 0⟩)))]) (Rs.mk [.agg KR] x) [.lf .bool]
        (ex fun s => pur (i < max 1 most.toNat) (blk n2 [.sl s] ^ blk n1 [.int .i64 most] ^ arr s KR (xs.take i)))
        (fun c => cond c (ex fun s => pur (i + 1 < max 1 most.toNat) (blk n2 [.sl s] ^ blk n1 [.int .i64 most] ^ arr s KR (xs.take (i + 1)))) (ex fun s => blk n2 [.sl s] ^ arr s KR (takeN xs most))) := by
      intro i x hx
      have hi : i < xs.length := (List.getElem?_eq_some_iff.1 hx).1
      refine (Tri.g (f := N_canterhelp_All_apiKey_c1) (args := [.agg (Ks.mk KR x)]) (caps := [.lf (.ptr (some ⟨n2, 0⟩)), .lf (.ptr (some ⟨n1, 0⟩))]) (tri_0 (call_canterhelp_All_apiKey_c1 x ⟨n2, 0⟩ ⟨n1, 0⟩) fun w S R h => ?_)).v
      unfold W_canterhelp_All_apiKey_c1
      refine w_new h fun m1 w h => ?_
      obtain ⟨s, h⟩ := (h.take (ex fun s => pur (i < max 1 most.toNat) (blk n2 [.sl s] ^ blk n1 [.int .i64 most] ^ arr s KR (xs.take i)))).exP
      obtain ⟨hlt, h⟩ := h.purP
      refine w_ld h rfl ?_
      refine w_ldAll h rfl ?_
      refine w_new h fun m2 w h => ?_
      have h := h.blkArr m2 KR [x] rfl (by simp)
      have htl : (xs.take i).length = i := by rw [List.length_take]; omega
      refine w_app h rfl (by rw [htl]; simp; omega) fun s5 w hs h => ?_
      refine w_set h rfl fun w h => ?_
      dsimp only [upd, over] at h
      refine w_ld h rfl ?_
      refine w_ld h rfl ?_
      have htk : xs.take i ++ [x] = xs.take (i + 1) := by rw [List.take_add_one, hx]; rfl
      rw [htl] at hs
      simp only [List.length_singleton] at hs
      rw [htk] at h
      by_cases hc : ((s5.len : Nat) : Int) < most
      · rw [decide_eq_true hc]
        exact Own.retE s5 (Own.retP (by omega) h.fin)
      · rw [decide_eq_false hc]
        have e : takeN xs most = xs.take (i + 1) := by rw [takeN]; congr 1; omega
        rw [e]
        exact Own.retE s5 h.fin
    have hit := (it _ _ _ hy).v
    have h := (h.nil KR).take (blk n2 [.sl ⟨none, 0, 0⟩] ^ blk n1 [.int .i64 most] ^ arr ⟨none, 0, 0⟩ KR [])
    have h := h.toPur (p := 0 < max 1 most.toNat) (by omega)
    have h := h.toEx (f := fun s => pur (0 < max 1 most.toNat) (blk n2 [.sl s] ^ blk n1 [.int .i64 most] ^ arr s KR (xs.take 0))) ⟨none, 0, 0⟩
    refine w_callv hit h fun r w h => ?_
    have h := h.take (either (ex fun s => pur (xs.length < max 1 most.toNat) (blk n2 [.sl s] ^ blk n1 [.int .i64 most] ^ arr s KR (xs.take xs.length))) (ex fun s => blk n2 [.sl s] ^ arr s KR (takeN xs most)))
    obtain ⟨b, h⟩ := h.exP
    cases b with
    | true =>
      have h : Own _ _ _ _ ((ex fun s => pur (xs.length < max 1 most.toNat) (blk n2 [.sl s] ^ blk n1 [.int .i64 most] ^ arr s KR (xs.take xs.length))) ^ _) := h
      obtain ⟨s, h⟩ := h.exP
      obtain ⟨hlt, h⟩ := h.purP
      refine w_ld h rfl ?_
      have e : takeN xs most = xs.take xs.length := by rw [takeN, List.take_of_length_le (by omega), List.take_length]
      rw [e]
      exact h.fin
    | false =>
      have h : Own _ _ _ _ ((ex fun s => blk n2 [.sl s] ^ arr s KR (takeN xs most)) ^ _) := h
      obtain ⟨s, h⟩ := h.exP
      refine w_ld h rfl ?_
      exact h.fin

end Keys

end Go.X
