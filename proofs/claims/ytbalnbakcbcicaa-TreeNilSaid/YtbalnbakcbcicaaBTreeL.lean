/- Contracts and plain facts: TreeL. -/
import Derived.Test.YtbalnbakcbcicaaBPlain
import Derived.Test.YtbalnbakcbcicaaBTreeM
import Derived.Test.YtbalnbakcbcicaaBTreeN
import Derived.Test.YtbalnbakcbcicaaBTreeA
import Derived.Test.YtbalnbakcbcicaaBTreeB
import Derived.Test.YtbalnbakcbcicaaBTreeC
import Derived.Test.YtbalnbakcbcicaaBTreeD
import Derived.Test.YtbalnbakcbcicaaBTreeE
import Derived.Test.YtbalnbakcbcicaaBKeys
import Derived.Test.YtbalnbakcbcicaaBTreeF
import Derived.Test.YtbalnbakcbcicaaXw
import Derived.Test.YtbalnbakcbcicaaK
import Derived.Test.YtbalnbakcbcicaaF0
set_option linter.unusedVariables false
set_option linter.unusedSimpArgs false
set_option linter.unusedSectionVars false
namespace Go.X
open Go.Proofs
namespace TreeL
open _root_.Go.X.Tree TreeA TreeB TreeC TreeD TreeE TreeF
/-! ### A nil tree -/
theorem insnil_tri (k : Key) : Tri Try.prog N_rbtree_Tree_Insert [.lf (.ptr none), .agg (Ks.mk [.int .u64, .int .u64] k)] [.lf (.int .i64)] emp (fun r => pur (r = 2) emp) :=
  tri_0 (call_rbtree_Tree_Insert _ k) fun w0 S R h => by
    unfold W_rbtree_Tree_Insert
    refine w_new h fun n1 w h => w_ite (fun _ => Own.retP rfl h.emp') fun c => (by cases c)
theorem delnil_tri (k : Key) : Tri Try.prog N_rbtree_Tree_Delete [.lf (.ptr none), .agg (Ks.mk [.int .u64, .int .u64] k)] [.lf (.int .i64)] emp (fun r => pur (r = 2) emp) :=
  tri_0 (call_rbtree_Tree_Delete _ k) fun w0 S R h => by
    unfold W_rbtree_Tree_Delete
    refine w_new h fun n1 w h => w_ite (fun _ => Own.retP rfl h.emp') fun c => (by cases c)
theorem hasnil_tri (k : Key) : Tri Try.prog N_rbtree_Tree_Has [.lf (.ptr none), .agg (Ks.mk [.int .u64, .int .u64] k)] [.lf .bool] emp (fun r => pur (r = false) emp) :=
  tri_0 (call_rbtree_Tree_Has _ k) fun w0 S R h => by
    unfold W_rbtree_Tree_Has
    refine w_new h fun n1 w h => w_drw h fun w h => w_ite (fun c => (by cases c)) fun _ => Own.retP rfl h.emp'
theorem lennil_tri : Tri Try.prog N_rbtree_Tree_Len [.lf (.ptr none)] [.lf (.int .i64)] emp (fun r => pur (r = 0) emp) :=
  tri_0 (call_rbtree_Tree_Len _) fun w0 S R h => by
    unfold W_rbtree_Tree_Len
    refine w_ite (fun _ => Own.retP rfl h.emp') fun c => (by cases c)
theorem rootnil_tri : Tri Try.prog N_rbtree_Tree_root [.lf (.ptr none)] [.lf (.int .i64)] emp (fun r => pur (r = -1) emp) :=
  tri_0 (call_rbtree_Tree_root _) fun w0 S R h => by
    unfold W_rbtree_Tree_root
    refine w_ite (fun _ => Own.retP rfl h.emp') fun c => (by cases c)
theorem heightnil_tri : Tri Try.prog N_rbtree_Tree_Height [.lf (.ptr none)] [.lf (.int .i64)] emp (fun r => pur (r = 0) emp) :=
  tri_0 (call_rbtree_Tree_Height _) fun w0 S R h => by
    unfold W_rbtree_Tree_Height
    refine w_call rootnil_tri h fun r w h => ?_
    obtain ⟨hr, h⟩ := h.purP; rw [hr]
    exact w_ite (fun _ => Own.retP rfl h.emp') fun c => (by cases c)
theorem nextnil_tri (k : Key) : Tri Try.prog N_rbtree_Tree_Next [.lf (.ptr none), .agg (Ks.mk [.int .u64, .int .u64] k)] [.agg [.int .u64, .int .u64], .lf .bool] emp (fun r => pur (r = ((0, 0), false)) emp) :=
  tri_0 (call_rbtree_Tree_Next _ k) fun w0 S R h => by
    unfold W_rbtree_Tree_Next
    refine w_new h fun n1 w h => w_new h fun n2 w h => ?_
    refine w_call rootnil_tri h fun r w h => ?_
    obtain ⟨hr, h⟩ := h.purP; rw [hr]
    refine w_loop (fun (_ : Int × Int) => blk n2 [.int .u64 (0:Int), .int .u64 (0:Int)]) (fun y : Int × Int => y = (-1, -1)) (fun _ => 0) h.fin rfl ?_
    rintro (y : Int × Int) w rfl h
    refine w_ite (fun c => (by cases c)) fun _ => w_ite (fun _ => ?_) fun c => (by cases c)
    refine w_setAll h (by rfl) fun w h => w_ldAll (b := n2) (x := ((0, 0) : Int × Int)) h rfl ?_
    exact Own.retP rfl h.emp'
theorem allnil_iter (n : Nat) : Iter Try.prog (mkAll n) (blk n [.ptr none]) [.agg [.int .u64, .int .u64]] [] := by
  intro y I D hy
  refine Tri.g (f := N_rbtree_Tree_All_c1) (args := [.lf (.fn y)]) (caps := [.lf (.ptr (some ⟨n, 0⟩))]) (tri_0 (call_rbtree_Tree_All_c1 y ⟨n, 0⟩) fun w0 S R h => ?_)
  unfold W_rbtree_Tree_All_c1
  refine w_ld h rfl ?_
  refine w_call rootnil_tri h fun r w h => ?_
  obtain ⟨hr, h⟩ := h.purP; rw [hr]
  refine w_ite (fun _ => ?_) fun c => (by cases c)
  have h : Own _ _ _ _ (I 0 ^ blk n [.ptr none]) := h.fin
  exact (h.eitherL D).fin
theorem minnil_tri : Tri Try.prog N_rbtree_Tree_Min [.lf (.ptr none)] [.agg [.int .u64, .int .u64], .lf .bool] emp (fun r => pur (r = ((0, 0), false)) emp) :=
  tri_n (W := fun n R => W_rbtree_Tree_Min n none R) (call_rbtree_Tree_Min _) fun w S R h => by
    unfold W_rbtree_Tree_Min
    refine w_new h fun n1 w h => ?_
    refine w_new h fun n2 w h => ?_
    refine w_join h (fun _ => blk n1 [.int .u64 (0:Int), .int .u64 (0:Int)] ^ blk n2 [.bool false]) (fun _ => True) (fun y w _ h => ?_) ?_
    · refine w_setAll h (by rfl) fun w h => w_setAll h (by rfl) fun w h => ?_
      refine w_ldAll (b := n1) (x := ((0, 0) : Int × Int)) h rfl (w_ld h rfl ?_)
      refine w_leave h fun w h => ?_
      exact Own.retP rfl h.emp'
    · refine w_call (all_tri _) h fun f w h => ?_
      obtain ⟨n, h⟩ := h.exP
      obtain ⟨hf, h⟩ := h.purP
      rw [hf]
      have h : Own _ _ _ _ (blk n [.ptr none] ^ (blk n1 [.int .u64 (0:Int), .int .u64 (0:Int)] ^ blk n2 [.bool false])) := h.fin
      refine w_range (allnil_iter n) (fun i => blk n1 [.int .u64 (0:Int), .int .u64 (0:Int)] ^ blk n2 [.bool false]) (fun j => pur False emp) h ?_ ?_ ?_
      · intro i x hx; cases hx
      · intro w h
        exact ⟨trivial, h.fin⟩
      · intro j w hj h
        have h := h.take (pur False emp)
        exact h.purP.1.elim
theorem nil_tri (k : Key) : Tri Try.prog N_canterlaw05_TreeNil [.agg (Ks.mk [.int .u64, .int .u64] k)] [.lf .bool] emp (fun r => pur (r = true) emp) :=
  tri_0 (call_canterlaw05_TreeNil k) fun w0 S R h => by
    unfold W_canterlaw05_TreeNil
    refine w_new h fun n1 w h => ?_
    refine w_call minnil_tri h fun r w h => ?_
    obtain ⟨hr, h⟩ := h.purP; rw [hr]
    refine w_new h fun n3 w h => w_setAll h (by rfl) fun w h => w_ldAll (b := n1) (x := k) h rfl ?_
    refine w_call (nextnil_tri k) h fun r w h => ?_
    obtain ⟨hr, h⟩ := h.purP; rw [hr]
    refine w_new h fun n6 w h => w_setAll h (by rfl) fun w h => ?_
    refine w_call (new_tri 0) h fun r w h => ?_
    obtain ⟨t, h⟩ := h.exP
    obtain ⟨hr, h⟩ := h.purP
    rw [hr]
    have hr0 : room 0 = 0 := by decide
    rw [hr0] at h
    refine w_call (min_tri t 0 []) h fun r w h => ?_
    obtain ⟨hr, h⟩ := h.purP; rw [hr]
    refine w_new h fun n9 w h => w_setAll h (by rfl) fun w h => ?_
    refine w_call awake_tri h fun r w h => ?_
    obtain ⟨hr, h⟩ := h.purP; rw [hr]
    refine w_ite (fun _ => ?_) fun c => (by cases c)
    refine w_ldAll (b := n1) (x := k) h rfl (w_call (insnil_tri k) h fun r w h => ?_)
    obtain ⟨hr, h⟩ := h.purP; rw [hr]
    refine w_ite (fun _ => ?_) fun c => (by cases c)
    refine w_ldAll (b := n1) (x := k) h rfl (w_call (delnil_tri k) h fun r w h => ?_)
    obtain ⟨hr, h⟩ := h.purP; rw [hr]
    refine w_ite (fun _ => ?_) fun c => (by cases c)
    refine w_ldAll (b := n1) (x := k) h rfl (w_call (hasnil_tri k) h fun r w h => ?_)
    obtain ⟨hr, h⟩ := h.purP; rw [hr]
    refine w_ite (fun _ => ?_) fun c => (by cases c)
    refine w_call lennil_tri h fun r w h => ?_
    obtain ⟨hr, h⟩ := h.purP; rw [hr]
    refine w_ite (fun _ => ?_) fun c => (by cases c)
    refine w_call heightnil_tri h fun r w h => ?_
    obtain ⟨hr, h⟩ := h.purP; rw [hr]
    refine w_ite (fun _ => ?_) fun c => (by cases c)
    refine w_call (all_tri _) h fun f w h => ?_
    obtain ⟨n, h⟩ := h.exP
    obtain ⟨hf, h⟩ := h.purP
    rw [hf]
    refine w_call (Keys.key_hall_tri (mkAll n) _ [] 3 (allnil_iter n) rfl (by simp)) h fun r w h => ?_
    have h : Own w0 S R w (arr r KR (takeN ([] : List Key) 3) ^ blk n1 (Ks.mk [.int .u64, .int .u64] k) ^ tree 0 t []) := h.fin
    have hl := (h.rd (s := r)).2
    have hl : r.len = 0 := hl
    refine w_ite (fun _ => ?_) fun c => (by rw [hl] at c; cases c)
    refine w_ldAll (b := n1) (x := k) h rfl (w_call (insert_tri t 0 [] k) h fun r w h => ?_)
    obtain ⟨hr, h⟩ := h.purP
    have e1 : insK 0 [] k = (5, []) := by simp [insK]
    rw [e1] at hr h
    rw [hr]
    refine w_ite (fun _ => ?_) fun c => (by cases c)
    refine w_ldAll (b := n1) (x := k) h rfl (w_call (delete_tri t 0 [] k) h fun r w h => ?_)
    obtain ⟨hr, h⟩ := h.purP
    have e1 : delK [] k = (7, []) := by simp [delK]
    rw [e1] at hr h
    rw [hr]
    refine w_ite (fun _ => ?_) fun c => (by cases c)
    refine w_call (height_tri t 0 []) h fun (r : Int) w h => ?_
    obtain ⟨⟨⟨_, hr2⟩, hr3⟩, h⟩ := h.purP
    refine Own.retP ?_ h.emp'
    have hr2 : (0 : Int) ≤ r := hr2
    have hr3 : r > 0 ↔ (0 : Nat) > 0 := hr3
    have : r = 0 := by omega
    rw [this]; rfl
end TreeL

end Go.X
