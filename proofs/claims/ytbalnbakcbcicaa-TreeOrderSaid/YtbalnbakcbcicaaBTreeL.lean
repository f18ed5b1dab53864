/- Contracts and plain facts: TreeL. -/
import Derived.Test.YtbalnbakcbcicaaBPlain
import Derived.Test.YtbalnbakcbcicaaBTreeM
import Derived.Test.YtbalnbakcbcicaaBTreeN
import Derived.Test.YtbalnbakcbcicaaBTreeA
import Derived.Test.YtbalnbakcbcicaaBTreeB
import Derived.Test.YtbalnbakcbcicaaBTreeC
import Derived.Test.YtbalnbakcbcicaaBTreeD
import Derived.Test.YtbalnbakcbcicaaBKeys
import Derived.Test.YtbalnbakcbcicaaBTreeF
import Derived.Test.YtbalnbakcbcicaaXw
import Derived.Test.YtbalnbakcbcicaaK
import Derived.Test.YtbalnbakcbcicaaF0
set_option linter.unusedVariables false
set_option linter.unusedSimpArgs false
set_option linter.unusedSectionVars false
namespace Go.X
open Go.Proofs
namespace TreeL
open _root_.Go.X.Tree TreeA TreeB TreeC TreeD TreeF
theorem tree_srt {w0 w : World} {S0 R0 : Nat → Prop} {F G : SP} {rm : Int} {t : Nat} {ks : List Key} (h : Own w0 S0 R0 w F) [tk : TakeK (TreeC.tree rm) t F ks G] : Srt ks ∧ ks.length ≤ 4096 := by
  obtain ⟨l, T, us, fr, a, s, s1, s2, hg, h⟩ := h.tree rm t
  exact ⟨hg.srt, hg.small.2.2.2⟩
theorem next_at {ks : List Key} {i : Nat} {k : Key} (hs : Srt ks) (hk : ks[i]? = some k) : nextF ks k = match ks[i + 1]? with | some m => (m, true) | none => ((0, 0), false) := by
  obtain ⟨hi, rfl⟩ := List.getElem?_eq_some_iff.1 hk
  have h1 : ∀ x ∈ ks.take (i + 1), klt ks[i] x = false := fun x hx => by
    obtain ⟨j, hj, rfl⟩ := List.mem_iff_getElem.1 hx
    rw [List.length_take] at hj
    rw [List.getElem_take]
    by_cases e : j = i
    · subst e; exact klt_irr _
    · exact klt_asym ((List.pairwise_iff_getElem.1 hs) j i (by omega) hi (by omega))
  have h2 : ks.find? (klt ks[i]) = (ks.drop (i + 1)).find? (klt ks[i]) := by
    have := find_mid (b := ks.drop (i + 1)) h1
    rwa [List.take_append_drop] at this
  unfold nextF
  rw [h2]
  cases hm : ks[i + 1]? with
  | none => rw [List.drop_eq_nil_of_le (List.getElem?_eq_none_iff.1 hm)]; rfl
  | some m =>
    obtain ⟨hi2, rfl⟩ := List.getElem?_eq_some_iff.1 hm
    rw [List.drop_eq_getElem_cons hi2, List.find?_cons_of_pos ((List.pairwise_iff_getElem.1 hs) i (i + 1) hi hi2 (by omega))]
/-! ### A nil tree -/
theorem two_keys {a b : Key} (h : a ≠ b) : putK [a] b = [if klt b a then b else a, if klt b a then a else b] ∧ klt (if klt b a then b else a) (if klt b a then a else b) = true := by
  by_cases c : klt b a = true
  · have := klt_asym c
    simp [putK, c, this]
  · have c' : klt b a = false := by simpa using c
    have := klt_tot c' (Ne.symm h)
    simp [putK, c', this]
theorem order_tri (a b : Key) : Tri Try.prog N_canterlaw05_TreeOrder [.agg (Ks.mk [.int .u64, .int .u64] a), .agg (Ks.mk [.int .u64, .int .u64] b)] [.lf .bool] emp (fun r => pur (r = true) emp) :=
  tri_0 (call_canterlaw05_TreeOrder a b) fun w0 S R h => by
    unfold W_canterlaw05_TreeOrder
    refine w_new h fun n1 w h => w_new h fun n2 w h => ?_
    refine w_call (new_tri 4) h fun r w h => ?_
    obtain ⟨t, h⟩ := h.exP
    obtain ⟨hr, h⟩ := h.purP
    rw [hr]
    have hr0 : room 4 = 4 := by decide
    rw [hr0] at h
    refine w_ldAll (b := n1) (x := a) h rfl (w_call (insert_tri t 4 [] a) h fun r w h => ?_)
    obtain ⟨hr, h⟩ := h.purP
    have e1 : insK 4 [] a = (0, [a]) := by simp [insK, putK]
    rw [e1] at hr h
    refine w_ldAll (b := n2) (x := b) h rfl (w_call (insert_tri t 4 [a] b) h fun r7 w h => ?_)
    obtain ⟨hr7, h⟩ := h.purP
    obtain ⟨ks, e2, e3⟩ : ∃ ks, insK 4 [a] b = (if a = b then 6 else 0, ks) ∧ ((a = b ∧ ks = [a]) ∨ (a ≠ b ∧ ks = [if klt b a then b else a, if klt b a then a else b] ∧ klt (if klt b a then b else a) (if klt b a then a else b) = true)) := by
      by_cases hab : a = b
      · exact ⟨[a], by simp [insK, hab], .inl ⟨hab, rfl⟩⟩
      · have := two_keys hab
        refine ⟨putK [a] b, by simp [insK, hab, Ne.symm hab], .inr ⟨hab, this.1, this.2⟩⟩
    rw [e2] at hr7 h
    rw [hr7]
    have hsrt := (tree_srt (rm := 4) (t := t) h).1
    obtain ⟨x, hx, hx2⟩ : ∃ x, ks[0]? = some x ∧ x = (if klt b a then b else a) := by
      rcases e3 with ⟨hab, rfl⟩ | ⟨hab, rfl, _⟩
      · exact ⟨a, rfl, by rw [hab]; simp⟩
      · exact ⟨_, rfl, rfl⟩
    have hmin : minF ks = (x, true) := by
      cases ks with
      | nil => cases hx
      | cons y l => cases hx; rfl
    refine w_call (min_tri t 4 ks) h fun r w h => ?_
    obtain ⟨hr, h⟩ := h.purP
    rw [hr, hmin]
    refine w_new h fun n9 w h => w_setAll h (by rfl) fun w h => w_ldAll (b := n1) (x := a) h rfl ?_
    refine w_new h fun n11 w h => w_setAll h (by rfl) fun w h => ?_
    have h : Own w0 S R w (blk n11 (Ks.mk [.int .u64, .int .u64] a) ^ blk n9 (Ks.mk [.int .u64, .int .u64] x) ^ tree 4 t ks ^ blk n2 (Ks.mk [.int .u64, .int .u64] b) ^ blk n1 (Ks.mk [.int .u64, .int .u64] a) ^ emp) := h.fin
    refine w_join h (fun _ => blk n11 (Ks.mk [.int .u64, .int .u64] x) ^ blk n9 (Ks.mk [.int .u64, .int .u64] x) ^ tree 4 t ks ^ blk n2 (Ks.mk [.int .u64, .int .u64] b) ^ blk n1 (Ks.mk [.int .u64, .int .u64] a) ^ emp) (fun _ => True) (fun _ w _ h => ?_) ?_
    · refine w_ldAll (b := n9) (x := x) h rfl ?_
      refine w_call (next_tri t 4 ks x) h fun r w h => ?_
      obtain ⟨hr, h⟩ := h.purP
      rw [next_at hsrt hx] at hr
      rw [hr]
      clear hr
      rcases e3 with ⟨hab, hks⟩ | ⟨hab, hks, hlt⟩
      · rw [hks] at hx ⊢
        have hxa : x = a := by cases hx; rfl
        refine w_new h fun n25 w h => w_setAll h (by rfl) fun w h => w_ldAll (b := n1) (x := a) h rfl (w_ldAll (b := n2) (x := b) h rfl ?_)
        refine w_ite (fun _ => ?_) fun c => (by simp [hab] at c)
        refine w_call awake_tri h fun r w h => ?_
        obtain ⟨hr, h⟩ := h.purP; rw [hr, if_pos hab]
        refine w_ite (fun _ => ?_) fun c => (by cases c)
        refine w_ldAll (b := n9) (x := x) h rfl (w_ldAll (b := n1) (x := a) h rfl ?_)
        exact Own.retP (by rw [hxa]; simp) h.emp'
      · obtain ⟨y, hy⟩ : ∃ y, y = (if klt b a then a else b) := ⟨_, rfl⟩
        have hlt' : klt x y = true := by rw [hx2, hy]; exact hlt
        have hne : x ≠ y := fun e => by rw [e, klt_irr] at hlt'; cases hlt'
        have e5 : ks[0 + 1]? = some y := by rw [hks, hy]; rfl
        rw [e5]
        refine w_new h fun n25 w h => w_setAll h (by rfl) fun w h => w_ldAll (b := n1) (x := a) h rfl (w_ldAll (b := n2) (x := b) h rfl ?_)
        refine w_ite (fun c => ?_) fun _ => ?_
        · simp only [Bool.and_eq_true, beq_iff_eq] at c
          exact absurd (key_ext c.1 c.2) hab
        refine w_call awake_tri h fun r w h => ?_
        obtain ⟨hr, h⟩ := h.purP; rw [hr, if_neg hab]
        refine w_ite (fun _ => ?_) fun c => (by cases c)
        refine w_ldAll (b := n9) (x := x) h rfl (w_ldAll (b := n11) (x := x) h rfl ?_)
        refine w_ite (fun _ => ?_) fun c => (by simp at c)
        have fin : (!((y.1 == x.1) && (y.2 == x.2))) = true := by
          rw [Bool.not_eq_true', Bool.and_eq_false_iff]
          by_cases e : y.1 = x.1
          · right
            rw [beq_eq_false_iff_ne]
            exact fun e2 => hne (key_ext e.symm e2.symm)
          · left; simpa using e
        refine w_ldAll (b := n25) (x := y) h rfl (w_ldAll (b := n1) (x := a) h rfl ?_)
        refine w_ite (fun _ => ?_) fun c => ?_
        · refine w_ldAll (b := n25) (x := y) h rfl (w_ldAll (b := n9) (x := x) h rfl ?_)
          exact Own.retP fin h.emp'
        · refine w_ldAll (b := n25) (x := y) h rfl (w_ldAll (b := n2) (x := b) h rfl ?_)
          have hyb : y = b := by
            rw [hy] at c ⊢
            split at c
            · simp at c
            · rename_i c2; rw [if_neg c2]
          refine w_ite (fun _ => ?_) fun c2 => (by rw [hyb] at c2; simp at c2)
          refine w_ldAll (b := n25) (x := y) h rfl (w_ldAll (b := n9) (x := x) h rfl ?_)
          exact Own.retP fin h.emp'
    · refine w_join h (fun _ => blk n11 (Ks.mk [.int .u64, .int .u64] a) ^ blk n9 (Ks.mk [.int .u64, .int .u64] x) ^ tree 4 t ks ^ blk n2 (Ks.mk [.int .u64, .int .u64] b) ^ blk n1 (Ks.mk [.int .u64, .int .u64] a) ^ emp) (fun y : Bool => y = klt b a) (fun (y : Bool) w hy h => ?_) ?_
      · rw [hy]
        refine w_ite (fun c => ?_) fun c => ?_
        · rw [if_pos c] at hx2
          rw [← hx2] at h ⊢
          refine w_ldAll (b := n2) (x := x) h rfl ?_
          refine w_setAll h (by rfl) fun w h => ?_
          exact ⟨trivial, h.fin⟩
        · rw [if_neg (by rw [c]; simp)] at hx2
          rw [hx2] at h ⊢
          exact ⟨trivial, h⟩
      · refine w_ld h rfl (w_ld h rfl (w_ite (fun c => ?_) fun c => ?_))
        · have c : b.1 < a.1 := of_decide_eq_true c
          exact ⟨by simp [klt, c], h⟩
        · have c : ¬ b.1 < a.1 := of_decide_eq_false c
          refine w_ld h rfl (w_ld h rfl (w_ite (fun c2 => ?_) fun c2 => ?_))
          · have c2 : b.1 = a.1 := by simpa using c2
            exact w_ld h rfl (w_ld h rfl ⟨by simp [klt, c2], h⟩)
          · have c2 : b.1 ≠ a.1 := by simpa using c2
            exact ⟨by simp [klt, c, c2], h⟩
end TreeL

end Go.X
