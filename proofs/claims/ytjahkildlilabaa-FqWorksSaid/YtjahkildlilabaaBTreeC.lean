/- Contracts and plain facts: TreeC. -/
import Derived.Test.YtjahkildlilabaaBPlain
import Derived.Test.YtjahkildlilabaaBTreeM
import Derived.Test.YtjahkildlilabaaBTreeN
import Derived.Test.YtjahkildlilabaaBTreeA
import Derived.Test.YtjahkildlilabaaBTreeB
import Derived.Test.YtjahkildlilabaaXw
import Derived.Test.YtjahkildlilabaaK
import Derived.Test.YtjahkildlilabaaF0
import Derived.Test.YtjahkildlilabaaF1
set_option linter.unusedVariables false
set_option linter.unusedSimpArgs false
set_option linter.unusedSectionVars false
namespace Go.X
open Go.Proofs
namespace TreeC
open _root_.Go.X.Tree TreeA TreeB
open Tr (e n)
theorem sz_ids : ∀ t : Tr, szT t = t.ids.length
  | .e => rfl
  | .n l i k r => by simp [szT, Tr.ids, sz_ids l, sz_ids r]; omega
/-- All is as it should be: the nodes, the tree that they are, which places are given out, which were freed, the keys, and the room. -/
structure GoodT (l : List Nd) (T : Tr) (us : List Bool) (fr : List Nat) (ks : List Key) (rm : Int) : Prop where
  rep : Rep l T
  avl : T.avl
  ino : T.ino = ks
  srt : Srt ks
  lk : Lk l 5000
  ul : us.length = l.length
  nd : (T.ids ++ fr).Nodup
  all : ∀ i, i < l.length → i ∈ T.ids ∨ i ∈ fr
  lt : ∀ i ∈ fr, i < l.length
  on : ∀ i ∈ T.ids, us[i]? = some true
  rr : 0 ≤ rm ∧ rm ≤ 4096
  room : (l.length : Int) ≤ rm
theorem nodup_lt : ∀ (m : Nat) (l : List Nat), l.Nodup → (∀ x ∈ l, x < m) → l.length ≤ m := fun m l hd h => by
  have := nodup_few m (l.map fun x : Nat => (x : Int)) (by
    rw [List.nodup_iff_pairwise_ne, List.pairwise_map]
    exact (List.nodup_iff_pairwise_ne.1 hd).imp fun {a b} hab e => hab (by omega)) (fun x hx => by
    obtain ⟨y, hy, rfl⟩ := List.mem_map.1 hx
    have := h y hy
    omega)
  simpa using this
theorem GoodT.ids_len {l : List Nd} {T : Tr} {us : List Bool} {fr : List Nat} {ks : List Key} {rm : Int} (h : GoodT l T us fr ks rm) : T.ids.length + fr.length ≤ l.length := by
  have := nodup_lt l.length (T.ids ++ fr) h.nd (fun x hx => by
    rcases List.mem_append.1 hx with hx | hx
    · exact h.rep.lt x hx
    · exact h.lt x hx)
  rwa [List.length_append] at this
theorem GoodT.ks_len {l : List Nd} {T : Tr} {us : List Bool} {fr : List Nat} {ks : List Key} {rm : Int} (h : GoodT l T us fr ks rm) : ks.length = T.ids.length := by
  rw [← h.ino, Tr.len_ids]
theorem GoodT.small {l : List Nd} {T : Tr} {us : List Bool} {fr : List Nat} {ks : List Key} {rm : Int} (h : GoodT l T us fr ks rm) : l.length ≤ 4096 ∧ szT T ≤ 4096 ∧ fr.length ≤ 4096 ∧ ks.length ≤ 4096 := by
  have h1 := h.ids_len
  have h2 := h.room
  have h3 := h.rr
  have h4 := sz_ids T
  have h5 := h.ks_len
  omega
abbrev St := List Nd × Tr × List Bool × List Nat × Nat × Sl × Sl × Sl
def tree (rm : Int) (t : Nat) (ks : List Key) : SP := exq (fun x : St => GoodT x.1 x.2.1 x.2.2.1 x.2.2.2.1 ks rm) (fun x => blk t [.ptr (some ⟨x.2.2.2.2.1, 0⟩), .sl x.2.2.2.2.2.1, .int .i64 (x.2.1.rt + 1), .int .i64 ks.length, .int .i64 rm] ^ arr x.2.2.2.2.2.1 KN x.1 ^ blk x.2.2.2.2.1 [.sl x.2.2.2.2.2.2.1, .sl x.2.2.2.2.2.2.2, .int .i64 rm] ^ arr x.2.2.2.2.2.2.1 KB x.2.2.1 ^ arr x.2.2.2.2.2.2.2 KI (x.2.2.2.1.map fun x : Nat => (x : Int)))
instance (rm : Int) (t : Nat) (ks : List Key) : NoR (tree rm t ks) := by unfold tree; infer_instance
section
variable {w0 w : World} {S0 R0 : Nat → Prop} {F G : SP} {ks : List Key}
theorem _root_.Go.X.Own.tree (h : Own w0 S0 R0 w F) (rm : Int) (t : Nat) [tk : TakeK (TreeC.tree rm) t F ks G] : ∃ (l : List Nd) (T : Tr) (us : List Bool) (fr : List Nat) (a : Nat) (s s1 s2 : Sl), GoodT l T us fr ks rm ∧
    Own w0 S0 R0 w (blk t [.ptr (some ⟨a, 0⟩), .sl s, .int .i64 (T.rt + 1), .int .i64 ks.length, .int .i64 rm] ^ arr s KN l ^ blk a [.sl s1, .sl s2, .int .i64 rm] ^ arr s1 KB us ^ arr s2 KI (fr.map fun x : Nat => (x : Int)) ^ G) := by
  obtain ⟨⟨l, T, us, fr, a, s, s1, s2⟩, hg, h⟩ := Own.outq (h.le tk.le)
  exact ⟨l, T, us, fr, a, s, s1, s2, hg, h.fin⟩
theorem _root_.Go.X.Own.mkTree {rm : Int} (h : Own w0 S0 R0 w F) (t : Nat) (l : List Nd) (T : Tr) (us : List Bool) (fr : List Nat) (a : Nat) (s s1 s2 : Sl) (hg : GoodT l T us fr ks rm) [tk : Take (blk t [.ptr (some ⟨a, 0⟩), .sl s, .int .i64 (T.rt + 1), .int .i64 ks.length, .int .i64 rm] ^ arr s KN l ^ blk a [.sl s1, .sl s2, .int .i64 rm] ^ arr s1 KB us ^ arr s2 KI (fr.map fun x : Nat => (x : Int))) F G] :
    Own w0 S0 R0 w (TreeC.tree rm t ks ^ G) :=
  Own.inq (φ := fun x : St => GoodT x.1 x.2.1 x.2.2.1 x.2.2.2.1 ks rm) (f := fun x => blk t [.ptr (some ⟨x.2.2.2.2.1, 0⟩), .sl x.2.2.2.2.2.1, .int .i64 (x.2.1.rt + 1), .int .i64 ks.length, .int .i64 rm] ^ arr x.2.2.2.2.2.1 KN x.1 ^ blk x.2.2.2.2.1 [.sl x.2.2.2.2.2.2.1, .sl x.2.2.2.2.2.2.2, .int .i64 rm] ^ arr x.2.2.2.2.2.2.1 KB x.2.2.1 ^ arr x.2.2.2.2.2.2.2 KI (x.2.2.2.1.map fun x : Nat => (x : Int))) h (l, T, us, fr, a, s, s1, s2) hg
end
def room (n : Int) : Int := min (max n 0) 4096
theorem room_r (n : Int) : 0 ≤ room n ∧ room n ≤ 4096 := by unfold room; omega
theorem good0 (n : Int) : GoodT [] .e [] [] [] (room n) where
  rep := trivial
  avl := trivial
  ino := rfl
  srt := List.Pairwise.nil
  lk := fun i hi => by have := hi.2; simp at this
  ul := rfl
  nd := by simp [Tr.ids]
  all := fun i hi => by simp at hi
  lt := fun i hi => by simp at hi
  on := fun i hi => by simp [Tr.ids] at hi
  rr := room_r n
  room := by have := room_r n; simp; omega
theorem new_tri (n : Int) : Tri Try.prog N_rbtree_New [.lf (.int .i64 n)] [.lf .ptr] emp (fun r => ex fun t : Nat => pur (r = some ⟨t, 0⟩) (tree (room n) t [])) :=
  tri_0 (call_rbtree_New n) fun w0 S R h => by
    unfold W_rbtree_New
    have e : (if (4096:Int) < (if (0:Int) > n then (0:Int) else n) then (4096:Int) else (if (0:Int) > n then (0:Int) else n)) = room n := by unfold room; (repeat' split) <;> omega
    rw [e]
    refine w_call (new_arena (room n)) h fun r w h => ?_
    obtain ⟨a, h⟩ := h.exP
    obtain ⟨hr, h⟩ := h.purP
    rw [hr]
    have e2 : min (max (room n) 0) 4096 = room n := by have := room_r n; omega
    rw [e2] at h
    refine w_new h fun t w h => ?_
    have h : Own w0 S R _ (arr ⟨none, 0, 0⟩ KI (([] : List Nat).map fun x : Nat => (x : Int)) ^ _) := h.nil KI
    have h := (h.nil KB).nil KN
    have h := h.blkEq (b := t) (L' := [.ptr (some ⟨a, 0⟩), .sl ⟨none, 0, 0⟩, .int .i64 (Tr.e.rt + 1), .int .i64 (([] : List Key).length : Int), .int .i64 (room n)]) rfl
    have h : Own w0 S R _ (blk t [.ptr (some ⟨a, 0⟩), .sl ⟨none, 0, 0⟩, .int .i64 (Tr.e.rt + 1), .int .i64 (([] : List Key).length : Int), .int .i64 (room n)] ^ arr ⟨none, 0, 0⟩ KN [] ^ blk a [.sl ⟨none, 0, 0⟩, .sl ⟨none, 0, 0⟩, .int .i64 (room n)] ^ arr ⟨none, 0, 0⟩ KB [] ^ arr ⟨none, 0, 0⟩ KI (([] : List Nat).map fun x : Nat => (x : Int))) := h.fin
    exact Own.retE t (Own.retP rfl (h.mkTree t [] .e [] [] a ⟨none, 0, 0⟩ ⟨none, 0, 0⟩ ⟨none, 0, 0⟩ (good0 n)).keep)
theorem find_in {l : List Nd} {T : Tr} {us : List Bool} {fr : List Nat} {ks : List Key} {rm : Int} (hg : GoodT l T us fr ks rm) (k : Key) :
    (k ∉ ks ∧ (∃ c, find k T [] = (.e, c) ∧ ks = lk c ++ rk c ∧ (∀ m ∈ lk c, klt m k = true) ∧ ∀ m ∈ rk c, klt k m = true)) ∨
    (k ∈ ks ∧ ∃ L i R c, find k T [] = (.n L i k R, c) ∧ fill (.n L i k R) c = T) := by
  have hs : Srt T.ino := by rw [hg.ino]; exact hg.srt
  obtain ⟨g1, g2, g3⟩ := find_lt k T [] hs (by simp [lk]) (by simp [rk])
  have hf := find_fill k T []
  have hi := hg.ino
  generalize find k T [] = p at *
  obtain ⟨sub, c⟩ := p
  dsimp only at g1 g2 g3 hf
  have hf : fill sub c = T := hf
  rcases g3 with g3 | ⟨L, i, R, g3⟩
  · left
    subst g3
    have eo : ks = lk c ++ rk c := by rw [← hi, ← hf, fill_ino]; simp [Tr.ino]
    refine ⟨fun hk => ?_, c, rfl, eo, g1, g2⟩
    rw [eo, List.mem_append] at hk
    rcases hk with hk | hk
    · have := g1 k hk; rw [klt_irr] at this; cases this
    · have := g2 k hk; rw [klt_irr] at this; cases this
  · right
    subst g3
    refine ⟨?_, L, i, R, c, rfl, hf⟩
    rw [← hi, ← hf, fill_ino]
    simp [Tr.ino]
end TreeC

end Go.X
