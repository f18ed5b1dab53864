/- Contracts and plain facts: TreeB. -/
import Derived.Test.YtjahkildlilabaaBPlain
import Derived.Test.YtjahkildlilabaaBTreeM
import Derived.Test.YtjahkildlilabaaBTreeN
import Derived.Test.YtjahkildlilabaaBTreeA
import Derived.Test.YtjahkildlilabaaXw
import Derived.Test.YtjahkildlilabaaK
import Derived.Test.YtjahkildlilabaaF0
import Derived.Test.YtjahkildlilabaaF1
set_option linter.unusedVariables false
set_option linter.unusedSimpArgs false
set_option linter.unusedSectionVars false
namespace Go.X
open Go.Proofs
namespace TreeB
open _root_.Go.X.Tree TreeA
/-! ### Places -/
theorem new_arena (n : Int) : Tri Try.prog N_arena_New [.lf (.int .i64 n)] [.lf .ptr] emp (fun r => ex fun a : Nat => pur (r = some ⟨a, 0⟩) (blk a [.sl ⟨none, 0, 0⟩, .sl ⟨none, 0, 0⟩, .int .i64 (min (max n 0) 4096)])) :=
  tri_0 (call_arena_New n) fun w0 S R h => by
    unfold W_arena_New
    have e : (if (4096:Int) < (if (0:Int) > n then (0:Int) else n) then (4096:Int) else (if (0:Int) > n then (0:Int) else n)) = min (max n 0) 4096 := by (repeat' split) <;> omega
    rw [e]
    refine w_new h fun a w h => ?_
    exact Own.retE a (Own.retP rfl h.fin)
section
variable (a : Nat) (s1 s2 : Sl) (us : List Bool) (fr : List Int) (rm : Int)
/-- A place that was freed is given out. -/
theorem get_old (i : Int) (f : List Int) (hf : fr = f ++ [i]) (hi : 0 ≤ i ∧ i.toNat < us.length) (hl : fr.length < 4611686018427387904) : Tri Try.prog N_arena_Arena_Get [.lf (.ptr (some ⟨a, 0⟩))] [.lf (.int .i64), .lf (.int .i64)] (blk a [.sl s1, .sl s2, .int .i64 rm] ^ arr s1 KB us ^ arr s2 KI fr)
    (fun r => ex fun s2' : Sl => pur (r = (i, 0)) (blk a [.sl s1, .sl s2', .int .i64 rm] ^ arr s1 KB (us.set i.toNat true) ^ arr s2' KI f)) :=
  tri_0 (call_arena_Arena_Get _) fun w0 S R h => by
    unfold W_arena_Arena_Get
    have h : Own w0 S R w0 (arr s1 KB us ^ arr s2 KI fr ^ blk a [.sl s1, .sl s2, .int .i64 rm]) := h.fin
    have hl2 := (h.drop.rd (s := s2)).2
    have hfl : fr.length = f.length + 1 := by rw [hf]; simp
    refine w_ite (fun c => (by cases c)) fun _ => w_deref (w_ld h rfl (w_ite (fun c => ?_) fun c => ?_))
    · have e : IntKind.i64.wrap (((s2.len : Nat) : Int) - 1) = (f.length : Int) := by rw [hl2, hfl]; rw [wi (by omega) (by omega)]; omega
      have hat : fr[((f.length : Nat) : Int).toNat]? = some i := by rw [hf]; simp
      dsimp only
      rw [e]
      refine w_deref (w_ld h rfl (w_idx (s := s2) h (by omega) (by omega) (w_ldE h s2 ((f.length : Nat) : Int).toNat hat rfl (w_deref (w_ld h rfl ?_)))))
      have hc := own_cap (s := s2) h
      refine w_slc (s := s2) h 0 f.length s2.cap rfl rfl rfl rfl (by omega) (by omega) (by omega) (by omega) fun s' hs1 hs2 h => ?_
      have e2 : (fr.take f.length).drop 0 = f := by rw [hf]; simp
      have h := h.arrEq (s := s') (K := KI) e2
      refine w_deref (w_set h rfl fun w h => ?_)
      dsimp only [upd, over] at h
      refine w_deref (w_ld h rfl ?_)
      refine w_idx (s := s1) h hi.1 hi.2 ?_
      refine w_stA h s1 i.toNat 0 us[i.toNat] true (at_some hi.2) rfl (by simp) (by simp) rfl fun w h => ?_
      exact Own.retE s' (Own.retP rfl h.fin)
    · have c : ¬ ((s2.len : Nat) : Int) > 0 := of_decide_eq_false c
      omega
/-- A new place is given out. -/
theorem get_new (hl : (us.length : Int) < rm) (hr : rm ≤ 4096) : Tri Try.prog N_arena_Arena_Get [.lf (.ptr (some ⟨a, 0⟩))] [.lf (.int .i64), .lf (.int .i64)] (blk a [.sl s1, .sl s2, .int .i64 rm] ^ arr s1 KB us ^ arr s2 KI [])
    (fun r => ex fun s1' : Sl => pur (r = ((us.length : Int), 0)) (blk a [.sl s1', .sl s2, .int .i64 rm] ^ arr s1' KB (us ++ [true]) ^ arr s2 KI [])) :=
  tri_0 (call_arena_Arena_Get _) fun w0 S R h => by
    unfold W_arena_Arena_Get
    have h : Own w0 S R w0 (arr s1 KB us ^ arr s2 KI [] ^ blk a [.sl s1, .sl s2, .int .i64 rm]) := h.fin
    have hl2 := (h.drop.rd (s := s2)).2
    have hl1 := (h.rd (s := s1)).2
    refine w_ite (fun c => (by cases c)) fun _ => w_deref (w_ld h rfl (w_ite (fun c => ?_) fun _ => ?_))
    · have c : ((s2.len : Nat) : Int) > 0 := of_decide_eq_true c
      have : s2.len = 0 := hl2
      omega
    refine w_drw h fun w h => w_deref (w_deref (w_ld h rfl (w_ld h rfl (w_ite (fun c => ?_) fun _ => ?_))))
    · have c : ((s1.len : Nat) : Int) ≥ rm := of_decide_eq_true c
      omega
    refine w_deref (w_ld h rfl ?_)
    refine w_new h fun n w h => ?_
    have h := h.blkArr n KB [true] rfl (by simp)
    refine w_app (s := s1) (x := ⟨some ⟨n, 0⟩, 1, 1⟩) h rfl (by simp; omega) fun s' w hs' h => ?_
    refine w_deref (w_set h rfl fun w h => ?_)
    dsimp only [upd, over] at h
    refine w_deref (w_ld h rfl ?_)
    have e : IntKind.i64.wrap (((s'.len : Nat) : Int) - 1) = (us.length : Int) := by
      have : s'.len = us.length + 1 := by simpa using hs'
      rw [this, wi (by omega) (by omega)]; omega
    rw [e]
    exact Own.retE s' (Own.retP rfl h.fin)
theorem has_tri (i : Int) (hi : 0 ≤ i ∧ i.toNat < us.length) : Tri Try.prog N_arena_Arena_Has [.lf (.ptr (some ⟨a, 0⟩)), .lf (.int .i64 i)] [.lf .bool] (blk a [.sl s1, .sl s2, .int .i64 rm] ^ arr s1 KB us) (fun r => pur (us[i.toNat]? = some r) (blk a [.sl s1, .sl s2, .int .i64 rm] ^ arr s1 KB us)) :=
  tri_0 (call_arena_Arena_Has _ i) fun w0 S R h => by
    unfold W_arena_Arena_Has
    have hl1 := (h.drop.rd (s := s1)).2
    refine w_ite (fun _ => ?_) fun c => ?_
    · refine w_deref (w_ld h rfl (w_ite (fun _ => ?_) fun c => ?_))
      · refine w_deref (w_ld h rfl (w_idx (s := s1) h hi.1 hi.2 (w_ldE h s1 i.toNat (at_some hi.2) rfl ?_)))
        exact Own.retP (at_some hi.2) h
      · have c : ¬ i < ((s1.len : Nat) : Int) := of_decide_eq_false c
        omega
    · simp at c; omega
theorem free_tri (i : Int) (hi : 0 ≤ i ∧ i.toNat < us.length) (hu : us[i.toNat]? = some true) (hr : (us.length : Int) ≤ rm) (hl : fr.length < 4294967295) : Tri Try.prog N_arena_Arena_Free [.lf (.ptr (some ⟨a, 0⟩)), .lf (.int .i64 i)] [.lf (.int .i64)] (blk a [.sl s1, .sl s2, .int .i64 rm] ^ arr s1 KB us ^ arr s2 KI fr)
    (fun r => ex fun s2' : Sl => pur (r = 0) (blk a [.sl s1, .sl s2', .int .i64 rm] ^ arr s1 KB (us.set i.toNat false) ^ arr s2' KI (fr ++ [i]))) :=
  tri_0 (call_arena_Arena_Free _ i) fun w0 S R h => by
    unfold W_arena_Arena_Free
    refine w_ite (fun c => (by cases c)) fun _ => ?_
    refine w_join h (fun _ => blk a [.sl s1, .sl s2, .int .i64 rm] ^ arr s1 KB us ^ arr s2 KI fr) (fun y : Bool => y = false) (fun (y : Bool) w hy h => ?_) ?_
    · rw [hy]
      refine w_ite (fun c => (by cases c)) fun _ => ?_
      refine w_call (has_tri a s1 s2 us rm i hi) h fun r w h => ?_
      obtain ⟨hr, h⟩ := h.purP
      rw [hu] at hr
      have hr : r = true := by cases hr; rfl
      rw [hr]
      refine w_ite (fun c => (by cases c)) fun _ => ?_
      refine w_deref (w_ld h rfl (w_idx (s := s1) h hi.1 hi.2 ?_))
      refine w_stA h s1 i.toNat 0 us[i.toNat] false (at_some hi.2) rfl (by simp) (by simp) rfl fun w h => ?_
      refine w_deref (w_ld h rfl ?_)
      refine w_new h fun n w h => ?_
      have h := h.blkArr n KI [i] rfl (by simp)
      refine w_app (s := s2) (x := ⟨some ⟨n, 0⟩, 1, 1⟩) h rfl (by simp; omega) fun s' w hs' h => ?_
      refine w_deref (w_set h rfl fun w h => ?_)
      dsimp only [upd, over] at h
      exact Own.retE s' (Own.retP rfl h.fin)
    · refine w_ite (fun c => ?_) fun _ => ?_
      · have c : i < 0 := of_decide_eq_true c
        omega
      · refine w_deref (w_ld h rfl ⟨?_, h⟩)
        exact decide_eq_false (by omega)
end
/-! ### Ways -/
def top1 : Tr → List Int
  | .e => []
  | .n _ i _ _ => [(i : Int)]
def pathF (p : Tr × List Stp) : List Int := (way p.2).reverse ++ top1 p.1
def leastL : Tr → List Int
  | .e => []
  | .n l i _ _ => (i : Int) :: leastL l
theorem rep_in {l : List Nd} {L R : Tr} {i : Nat} {k : Key} (h : Rep l (.n L i k R)) : In l (i : Int) ∧ nth l (i : Int) = (k.1, k.2, L.rt, R.rt, max L.ht R.ht + 1) :=
  ⟨⟨by omega, by rw [Int.toNat_natCast]; exact (List.getElem?_eq_some_iff.1 h.1).1⟩, nth_of h.1⟩
theorem ht_size : ∀ t : Tr, t.ht ≤ t.ino.length
  | .e => by simp [Tr.ht, Tr.ino]
  | .n l i k r => by
    have h1 := ht_size l
    have h2 := ht_size r
    simp only [Tr.ht, Tr.ino, List.length_append, List.length_cons]; omega
def szT : Tr → Nat
  | .e => 0
  | .n l _ _ r => szT l + szT r + 1
theorem way_len (k : Key) : ∀ (t : Tr) (c : List Stp), (find k t c).2.length ≤ c.length + szT t
  | .e, c => by simp [find, szT]
  | .n l i m r, c => by
    have h1 := way_len k l (.L i m r :: c)
    have h2 := way_len k r (.R l i m :: c)
    unfold find
    simp only [szT, List.length_cons] at *
    split
    · omega
    · split
      · simp only; omega
      · omega
section
variable (t : Nat) (ap : Option Pt) (s : Sl) (sz rm : Int) (l : List Nd) (T : Tr)

theorem root_tri (hT : Rep l T) (hl : l.length ≤ 4096) : Tri Try.prog N_rbtree_Tree_root [.lf (.ptr (some ⟨t, 0⟩))] [.lf (.int .i64)] (blk t [.ptr ap, .sl s, .int .i64 (T.rt + 1), .int .i64 sz, .int .i64 rm] ^ arr s KN l) (fun r => pur (r = T.rt) (blk t [.ptr ap, .sl s, .int .i64 (T.rt + 1), .int .i64 sz, .int .i64 rm] ^ arr s KN l)) :=
  tri_0 (call_rbtree_Tree_root _) fun w0 S R h => by
    unfold W_rbtree_Tree_root
    refine w_ite (fun c => (by cases c)) fun _ => w_deref (w_ld h rfl ?_)
    have e : IntKind.i64.wrap (T.rt + 1 - 1) = T.rt := by
      have : -1 ≤ T.rt ∧ T.rt ≤ 4096 := by
        cases T with
        | e => simp [Tr.rt]
        | n L i k R => have := (rep_in hT).1.2; simp only [Tr.rt, Int.toNat_natCast] at *; omega
      rw [Int.add_sub_cancel]
      exact wi (by omega) (by omega)
    dsimp only
    rw [e]
    exact Own.retP rfl h
theorem way_tri (hT : Rep l T) (hl : l.length ≤ 4096) (hz : szT T ≤ 4096) (k : Key) : Tri Try.prog N_rbtree_Tree_way [.lf (.ptr (some ⟨t, 0⟩)), .agg (Ks.mk [.int .u64, .int .u64] k)] [.lf .sl] (blk t [.ptr ap, .sl s, .int .i64 (T.rt + 1), .int .i64 sz, .int .i64 rm] ^ arr s KN l) (fun r => arr r KI (pathF (find k T [])) ^ blk t [.ptr ap, .sl s, .int .i64 (T.rt + 1), .int .i64 sz, .int .i64 rm] ^ arr s KN l) :=
  tri_0 (call_rbtree_Tree_way _ k) fun w0 S R h => by
    unfold W_rbtree_Tree_way
    refine w_new h fun n1 w h => ?_
    refine w_call (root_tri t ap s sz rm l T hT hl) h fun r w h => ?_
    obtain ⟨hr, h⟩ := h.purP; rw [hr]
    have h := h.nil KI
    have h := h.arrEq (s := ⟨none, 0, 0⟩) (K := KI) (ys := (way []).reverse) rfl
    have h : Own w0 S R w (arr ⟨none, 0, 0⟩ KI (way []).reverse ^ blk n1 (Ks.mk [.int .u64, .int .u64] k) ^ blk t [.ptr ap, .sl s, .int .i64 (T.rt + 1), .int .i64 sz, .int .i64 rm] ^ arr s KN l) := h.fin
    refine w_loopE (fun (y : Sl × Int) (x : Tr × List Stp) => arr y.1 KI (way x.2).reverse ^ blk n1 (Ks.mk [.int .u64, .int .u64] k) ^ blk t [.ptr ap, .sl s, .int .i64 (T.rt + 1), .int .i64 sz, .int .i64 rm] ^ arr s KN l) (fun (y : Sl × Int) (x : Tr × List Stp) => y.2 = x.1.rt ∧ Rep l x.1 ∧ find k T [] = find k x.1 x.2 ∧ x.2.length + szT x.1 ≤ 4096) (fun _ (x : Tr × List Stp) => szT x.1) (T, []) h ⟨rfl, hT, rfl, by simpa using hz⟩ ?_
    rintro K (⟨q, i⟩ : Sl × Int) ⟨sub, c⟩ w ⟨hi, hs, hf, hn⟩ h hK
    dsimp only at hi hs hf hn h hK ⊢
    cases sub with
    | e =>
      rw [hi]
      refine w_ite (fun c => (by simp [Tr.rt] at c)) fun _ => ?_
      rw [hf]
      have h := h.arrEq (s := q) (K := KI) (ys := pathF (find k .e c)) (by simp [pathF, find, top1])
      exact h.fin
    | n L j m Rr =>
      obtain ⟨hin, hnt⟩ := rep_in hs
      have hi : i = (j : Int) := hi
      rw [hi]
      refine w_ite (fun _ => ?_) fun c => (by have c : ((j : Int) != -1) = false := c; simp at c)
      refine w_new h fun n5 w h => ?_
      have h := h.blkArr n5 KI [(j : Int)] rfl (by simp)
      simp only [szT] at hn
      refine w_app (s := q) (x := ⟨some ⟨n5, 0⟩, 1, 1⟩) h rfl (by simp [way]; omega) fun s6 w _ h => ?_
      refine w_drw h fun w h => w_ldAll (x := k) h rfl (w_deref (w_ld h rfl (w_ix (s := s) h hin (rdK h hin ?_))))
      have ek : keyL l (j : Int) = m := by rw [keyL, hnt]
      have el : Tree.lt l (j : Int) = L.rt := by rw [Tree.lt, hnt]
      have er : rtt l (j : Int) = Rr.rt := by rw [rtt, hnt]
      rw [ek]
      refine w_call (comp_tri k m) h fun r w h => ?_
      obtain ⟨hr, h⟩ := h.purP; rw [hr]
      rw [find] at hf
      refine w_ite (fun c1 => ?_) fun c1 => ?_
      · have c1 : klt k m = true := kc_lt.1 (of_decide_eq_true c1)
        rw [if_pos c1] at hf
        refine w_deref (w_ld h rfl (w_ix (s := s) h hin (rdL h hin ?_)))
        rw [el]
        have h := h.arrEq (s := s6) (K := KI) (ys := (way (.L j m Rr :: c)).reverse) (by simp [way, Stp.i])
        exact hK (s6, L.rt) (L, .L j m Rr :: c) w ⟨rfl, hs.2.1, hf, by simp; omega⟩ h.fin (by simp only [szT]; omega)
      have c1 : klt k m = false := by
        have := of_decide_eq_false c1
        rw [kc_lt] at this; simpa using this
      rw [if_neg (by rw [c1]; simp)] at hf
      refine w_ite (fun c2 => ?_) fun c2 => ?_
      · have c2 := (kc_gt.1 (of_decide_eq_true c2)).2
        rw [if_neg c2] at hf
        refine w_deref (w_ld h rfl (w_ix (s := s) h hin (rdR h hin ?_)))
        rw [er]
        have h := h.arrEq (s := s6) (K := KI) (ys := (way (.R L j m :: c)).reverse) (by simp [way, Stp.i])
        exact hK (s6, Rr.rt) (Rr, .R L j m :: c) w ⟨rfl, hs.2.2, hf, by simp; omega⟩ h.fin (by simp only [szT]; omega)
      · have c2 := of_decide_eq_false c2
        rw [kc_gt] at c2
        have c2 : k = m := by
          by_cases e : k = m
          · exact e
          · exact absurd ⟨c1, e⟩ c2
        rw [if_pos c2] at hf
        rw [hf]
        have h := h.arrEq (s := s6) (K := KI) (ys := pathF (.n L j m Rr, c)) (by simp [pathF, top1])
        exact h.fin
theorem least_tri (hT : Rep l T) (hz : szT T ≤ 4096) (tp : Int) : Tri Try.prog N_rbtree_Tree_least [.lf (.ptr (some ⟨t, 0⟩)), .lf (.int .i64 T.rt)] [.lf .sl] (blk t [.ptr ap, .sl s, .int .i64 tp, .int .i64 sz, .int .i64 rm] ^ arr s KN l) (fun r => arr r KI (leastL T) ^ blk t [.ptr ap, .sl s, .int .i64 tp, .int .i64 sz, .int .i64 rm] ^ arr s KN l) :=
  tri_0 (call_rbtree_Tree_least _ _) fun w0 S R h => by
    unfold W_rbtree_Tree_least
    have h := h.nil KI
    refine w_loopE (fun (y : Int × Sl) (x : List Int × Tr) => arr y.2 KI x.1 ^ blk t [.ptr ap, .sl s, .int .i64 tp, .int .i64 sz, .int .i64 rm] ^ arr s KN l) (fun (y : Int × Sl) (x : List Int × Tr) => y.1 = x.2.rt ∧ Rep l x.2 ∧ leastL T = x.1 ++ leastL x.2 ∧ x.1.length + szT x.2 ≤ 4096) (fun _ (x : List Int × Tr) => szT x.2) ([], T) h ⟨rfl, hT, rfl, by simpa using hz⟩ ?_
    rintro K (⟨i, q⟩ : Int × Sl) ⟨xs, sub⟩ w ⟨hi, hs, hf, hn⟩ h hK
    dsimp only at hi hs hf hn h hK ⊢
    cases sub with
    | e =>
      rw [hi]
      refine w_ite (fun c => (by simp [Tr.rt] at c)) fun _ => ?_
      rw [hf, leastL, List.append_nil]
      exact h
    | n L j m Rr =>
      obtain ⟨hin, hnt⟩ := rep_in hs
      have hi : i = (j : Int) := hi
      rw [hi]
      refine w_ite (fun _ => ?_) fun c => (by have c : ((j : Int) != -1) = false := c; simp at c)
      refine w_new h fun n5 w h => ?_
      have h := h.blkArr n5 KI [(j : Int)] rfl (by simp)
      simp only [szT] at hn
      refine w_app (s := q) (x := ⟨some ⟨n5, 0⟩, 1, 1⟩) h rfl (by simp; omega) fun s6 w _ h => ?_
      have el : Tree.lt l (j : Int) = L.rt := by rw [Tree.lt, hnt]
      refine w_deref (w_ld h rfl (w_ix (s := s) h hin (rdL h hin ?_)))
      rw [el]
      exact hK (L.rt, s6) (xs ++ [(j : Int)], L) w ⟨rfl, hs.2.1, by rw [hf, leastL]; simp, by simp; omega⟩ h.fin (by simp only [szT]; omega)
theorem found_tri (hT : Rep l T) (hs : Srt T.ino) (hz : szT T ≤ 4096) (k : Key) (q : Sl) (tp : Int) : Tri Try.prog N_rbtree_Tree_found [.lf (.ptr (some ⟨t, 0⟩)), .lf (.sl q), .agg (Ks.mk [.int .u64, .int .u64] k)] [.lf (.int .i64)] (arr q KI (pathF (find k T [])) ^ blk t [.ptr ap, .sl s, .int .i64 tp, .int .i64 sz, .int .i64 rm] ^ arr s KN l)
    (fun r => pur (r = (find k T []).1.rt) (arr q KI (pathF (find k T [])) ^ blk t [.ptr ap, .sl s, .int .i64 tp, .int .i64 sz, .int .i64 rm] ^ arr s KN l)) :=
  tri_0 (call_rbtree_Tree_found _ q k) fun w0 S R h => by
    unfold W_rbtree_Tree_found
    have hlen := (h.rd (s := q)).2
    obtain ⟨g1, g2, g3⟩ := find_lt k T [] hs (by simp [lk]) (by simp [rk])
    have hfill := find_fill k T []
    have hwl := way_len k T []
    generalize find k T [] = p at *
    obtain ⟨sub, c⟩ := p
    dsimp only at g1 g2 g3 hfill hwl
    have hR : Rep l (fill sub c) := by rw [hfill]; exact hT
    obtain ⟨r1, r2⟩ := rep_fill hR
    have hpl : (pathF (sub, c)).length ≤ 4097 := by
      have : (top1 sub).length ≤ 1 := by cases sub <;> simp [top1]
      simp only [pathF, List.length_append, List.length_reverse, way, List.length_map]
      simp only [List.length_nil] at hwl; omega
    refine w_new h fun n1 w h => ?_
    have h : Own w0 S R w (blk n1 (Ks.mk [.int .u64, .int .u64] k) ^ arr q KI (pathF (sub, c)) ^ blk t [.ptr ap, .sl s, .int .i64 tp, .int .i64 sz, .int .i64 rm] ^ arr s KN l) := h.fin
    refine w_join h (fun _ => blk n1 (Ks.mk [.int .u64, .int .u64] k) ^ arr q KI (pathF (sub, c)) ^ blk t [.ptr ap, .sl s, .int .i64 tp, .int .i64 sz, .int .i64 rm] ^ arr s KN l) (fun y : Bool => y = nE sub) (fun (y : Bool) w hy h => ?_) ?_
    · rw [hy]
      refine w_ite (fun c1 => ?_) fun c1 => ?_
      · rcases g3 with g3 | ⟨L, i, r, g3⟩
        · rw [g3] at c1; cases c1
        have e : IntKind.i64.wrap (((q.len : Nat) : Int) - 1) = ((way c).length : Int) := by
          rw [hlen, wi (by omega) (by omega), pathF, g3]; simp [top1]
        have hat : (pathF (sub, c))[(((way c).length : Nat) : Int).toNat]? = some (i : Int) := by rw [g3, pathF]; simp [top1]
        rw [e]
        refine w_idx (s := q) h (by omega) (by rw [pathF, g3]; simp [top1]) (w_ldE h q (((way c).length : Nat) : Int).toNat hat rfl ?_)
        exact Own.retP (by rw [g3]; rfl) h.fin
      · have c1 : sub = .e := by
          cases sub with
          | e => rfl
          | n L i m r => cases c1
        exact Own.retP (by rw [c1]; rfl) h.fin
    · refine w_drw h fun w h => w_ite (fun c1 => ?_) fun c1 => ?_
      · have c1 : ((q.len : Nat) : Int) > 0 := of_decide_eq_true c1
        have hne : (pathF (sub, c)).length > 0 := by omega
        have e : IntKind.i64.wrap (((q.len : Nat) : Int) - 1) = (((pathF (sub, c)).length - 1 : Nat) : Int) := by
          rw [hlen, wi (by omega) (by omega)]; omega
        refine w_ldAll (x := k) h rfl (w_deref ?_)
        rw [e]
        have hlast : ∃ j : Nat, (pathF (sub, c))[((((pathF (sub, c)).length - 1 : Nat) : Int)).toNat]? = some (j : Int) ∧ In l (j : Int) ∧ decide (keyL l (j : Int) = k) = nE sub := by
          rw [Int.toNat_natCast]
          rcases g3 with g3 | ⟨L, i, r, g3⟩
          · rw [g3] at hne ⊢ r2 hfill hR
            cases c with
            | nil => simp [pathF, top1, way] at hne
            | cons f c =>
              have hp : pathF (.e, f :: c) = (way c).reverse ++ [(f.i : Int)] := by simp [pathF, way, top1]
              rw [hp]
              refine ⟨f.i, by simp, ?_⟩
              cases f with
              | L i m r =>
                obtain ⟨⟨hx, h1⟩, _⟩ := r2
                refine ⟨⟨by simp [Stp.i], by simp only [Stp.i, Int.toNat_natCast]; exact (List.getElem?_eq_some_iff.1 h1).1⟩, ?_⟩
                have e1 : keyL l (i : Int) = m := by rw [keyL, nth_of h1]
                have e2 : keyL l ((Stp.L i m r).i : Int) = m := e1
                rw [e2]
                have := g2 m (by simp [rk])
                have hne : m ≠ k := fun e => by rw [e, klt_irr] at this; cases this
                simp [hne, nE]
              | R L' i m =>
                obtain ⟨⟨hx, h1⟩, _⟩ := r2
                refine ⟨⟨by simp [Stp.i], by simp only [Stp.i, Int.toNat_natCast]; exact (List.getElem?_eq_some_iff.1 h1).1⟩, ?_⟩
                have e1 : keyL l (i : Int) = m := by rw [keyL, nth_of h1]
                have e2 : keyL l ((Stp.R L' i m).i : Int) = m := e1
                rw [e2]
                have := g1 m (by simp [lk])
                have hne : m ≠ k := fun e => by rw [e, klt_irr] at this; cases this
                simp [hne, nE]
          · rw [g3] at r1 ⊢
            obtain ⟨hin, hnt⟩ := rep_in r1
            have hp : pathF (.n L i k r, c) = (way c).reverse ++ [(i : Int)] := by simp [pathF, top1]
            rw [hp]
            refine ⟨i, by simp, hin, ?_⟩
            have e1 : keyL l (i : Int) = k := by rw [keyL, hnt]
            rw [e1]; simp [nE]
        obtain ⟨j, hj1, hj2, hj3⟩ := hlast
        refine w_idx (s := q) h (by omega) (by rw [Int.toNat_natCast]; omega) (w_ld h rfl (w_ldE h q _ hj1 rfl (w_ix (s := s) h hj2 (rdK h hj2 ?_))))
        refine ⟨?_, h⟩
        rw [← hj3, Bool.eq_iff_iff]
        simp only [Bool.and_eq_true, beq_iff_eq, decide_eq_true_eq]
        exact ⟨fun ⟨a, b⟩ => key_ext a b, fun e => by rw [e]; exact ⟨rfl, rfl⟩⟩
      · have c1 : ¬ ((q.len : Nat) : Int) > 0 := of_decide_eq_false c1
        refine ⟨?_, h⟩
        have : (pathF (sub, c)).length = 0 := by omega
        have hsub : sub = .e := by
          cases sub with
          | e => rfl
          | n L i m r => simp [pathF, top1] at this
        rw [hsub]; rfl
end
end TreeB

end Go.X
