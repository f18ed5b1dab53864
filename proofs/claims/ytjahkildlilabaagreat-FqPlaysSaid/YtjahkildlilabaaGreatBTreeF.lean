/- Contracts and plain facts: TreeE TreeF. -/
import Derived.Test.YtjahkildlilabaaGreatBArith
import Derived.Test.YtjahkildlilabaaGreatBTreeN
import Derived.Test.YtjahkildlilabaaGreatBTreeB
import Derived.Test.YtjahkildlilabaaGreatBTreeD
import Derived.Test.YtjahkildlilabaaGreatXw
import Derived.Test.YtjahkildlilabaaGreatK
import Derived.Test.YtjahkildlilabaaGreatF0
import Derived.Test.YtjahkildlilabaaGreatF1
set_option linter.unusedVariables false
set_option linter.unusedSimpArgs false
set_option linter.unusedSectionVars false
namespace Go.X
open Go.Proofs
namespace TreeE
open _root_.Go.X.Tree TreeA TreeB TreeC TreeD
theorem rep_swap {l l' : List Nd} : ∀ {c : List Stp} {t t' : Tr}, t.rt = t'.rt → t.ht = t'.ht → Rep l (fill t c) → Rep l' t' → (∀ j, j ∈ lc c ∨ j ∈ rc c → l'[j]? = l[j]?) → Rep l' (fill t' c)
  | [], _, _, _, _, _, h, _ => h
  | .L i k r :: c, t, t', h1, h2, h3, h4, hf => by
    have h3' : Rep l (fill (.n t i k r) c) := h3
    obtain ⟨⟨q1, q2, q3⟩, _⟩ := rep_fill h3'
    refine rep_swap (c := c) (t := .n t i k r) (t' := .n t' i k r) rfl (by simp only [Tr.ht, h2]) h3' ⟨?_, h4, q3.frame fun j hj => hf j (.inr (by simp [rc, hj]))⟩ fun j hj => hf j (hj.imp (fun x => x) fun x => by simp [rc, x])
    rw [hf i (.inr (by simp [rc])), q1, h1, h2]
  | .R q i k :: c, t, t', h1, h2, h3, h4, hf => by
    have h3' : Rep l (fill (.n q i k t) c) := h3
    obtain ⟨⟨q1, q2, q3⟩, _⟩ := rep_fill h3'
    refine rep_swap (c := c) (t := .n q i k t) (t' := .n q i k t') rfl (by simp only [Tr.ht, h2]) h3' ⟨?_, q2.frame fun j hj => hf j (.inl (by simp [lc, hj])), h4⟩ fun j hj => hf j (hj.imp (fun x => by simp [lc, x]) fun x => x)
    rw [hf i (.inl (by simp [lc])), q1, h1, h2]
theorem avl_swap : ∀ {c : List Stp} {t t' : Tr}, t.ht = t'.ht → t'.avl → (fill t c).avl → (fill t' c).avl
  | [], _, _, _, h, _ => h
  | .L i k r :: c, t, t', h1, h2, h3 => by
    have h3' : (fill (.n t i k r) c).avl := h3
    have q := fill_avl h3'
    exact avl_swap (c := c) (t := .n t i k r) (t' := .n t' i k r) (by simp only [Tr.ht, h1]) ⟨h2, q.2.1, by rw [← h1]; exact q.2.2.1, by rw [← h1]; exact q.2.2.2⟩ h3'
  | .R q i k :: c, t, t', h1, h2, h3 => by
    have h3' : (fill (.n q i k t) c).avl := h3
    have g := fill_avl h3'
    exact avl_swap (c := c) (t := .n q i k t) (t' := .n q i k t') (by simp only [Tr.ht, h1]) ⟨g.1, h2, by rw [← h1]; exact g.2.2.1, by rw [← h1]; exact g.2.2.2⟩ h3'
theorem lk_app : ∀ (d c : List Stp), lk (d ++ c) = lk c ++ lk d
  | [], c => by simp [lk]
  | .L i k r :: d, c => by simp only [List.cons_append, lk]; exact lk_app d c
  | .R q i k :: d, c => by simp only [List.cons_append, lk, lk_app d c]; simp
theorem rk_app : ∀ (d c : List Stp), rk (d ++ c) = rk d ++ rk c
  | [], c => by simp [rk]
  | .L i k r :: d, c => by simp only [List.cons_append, rk, rk_app d c]; simp
  | .R q i k :: d, c => by simp only [List.cons_append, rk]; exact rk_app d c
theorem fill_app : ∀ (d c : List Stp) (t : Tr), fill t (d ++ c) = fill (fill t d) c
  | [], c, t => rfl
  | f :: d, c, t => by simp only [List.cons_append, fill]; exact fill_app d c _
theorem least_way : ∀ (t : Tr) (c : List Stp), (way (leastC t c).2).reverse ++ top1 (leastC t c).1 = (way c).reverse ++ leastL t
  | .e, c => by simp [leastC, top1, leastL]
  | .n .e i m r, c => by simp [leastC, top1, leastL]
  | .n (.n a j x b) i m r, c => by
    rw [leastC, least_way (.n a j x b)]
    simp [way, leastL, Stp.i]
theorem good_del {l l1 : List Nd} {T : Tr} {us : List Bool} {fr : List Nat} {ks : List Key} {rm : Int} (hg : GoodT l T us fr ks rm) {a b : Tr} {j : Nat} {m k : Key} {c : List Stp}
    (hR : Rep l1 (fill (.n a j m b) c)) (hab : a = .e ∨ b = .e) (ha : (fill (.n a j m b) c).avl) (hids : (fill (.n a j m b) c).ids = T.ids) (hlk : Lk l1 5000) (hlen : l1.length = l.length) (hino : lk c ++ (a.ino ++ b.ino) ++ rk c = ks.erase k) :
    ∃ T', (dropL l1 j (kid a b).rt (way c)).2 = T'.rt ∧ GoodT (dropL l1 j (kid a b).rt (way c)).1 T' (us.set j false) (fr ++ [j]) (ks.erase k) rm := by
  have hnd0 := hg.nd
  have hdT : T.ids.Nodup := (List.nodup_append.1 hnd0).1
  obtain ⟨T', s, hs, mv, so, si⟩ := del1_rep (T := fill (.n a j m b) c) hR rfl hab ha (by rw [hids]; exact hdT)
  rw [hs] at mv
  rw [hs] at so si
  have hlen2 := dropL_len (way c) l1 j (kid a b).rt
  have e1 : T'.ino = ks.erase k := by rw [mv.ino, so, hino]
  have e2 : T'.ids = lc c ++ (a.ids ++ b.ids) ++ rc c := by rw [mv.ids, si]
  have e3 : T.ids = lc c ++ (a.ids ++ j :: b.ids) ++ rc c := by rw [← hids, fill_ids]; rfl
  have hp : (T.ids ++ fr).Perm (T'.ids ++ (fr ++ [j])) := by
    rw [e2, e3]
    have p1 : (lc c ++ (a.ids ++ j :: b.ids) ++ rc c ++ fr).Perm (j :: (lc c ++ (a.ids ++ b.ids) ++ rc c ++ fr)) := by
      have : lc c ++ (a.ids ++ j :: b.ids) ++ rc c ++ fr = (lc c ++ a.ids) ++ j :: (b.ids ++ rc c ++ fr) := by simp
      rw [this]
      refine List.perm_middle.trans ?_
      simp
    refine p1.trans ?_
    rw [← List.append_assoc]
    exact (List.perm_append_comm (l₁ := [j])).trans (by simp)
  have hmem : ∀ p, p ∈ T.ids ↔ p = j ∨ p ∈ T'.ids := fun p => by
    rw [e2, e3]; simp only [List.mem_append, List.mem_cons]
    constructor
    · rintro ((h | h | h | h) | h)
      · exact .inr (.inl (.inl h))
      · exact .inr (.inl (.inr (.inl h)))
      · exact .inl h
      · exact .inr (.inl (.inr (.inr h)))
      · exact .inr (.inr h)
    · rintro (h | (h | h | h) | h)
      · exact .inl (.inr (.inr (.inl h)))
      · exact .inl (.inl h)
      · exact .inl (.inr (.inl h))
      · exact .inl (.inr (.inr (.inr h)))
      · exact .inr h
  have hj : j ∉ T'.ids := by
    have h1 := hp.nodup_iff.1 hnd0
    rw [List.nodup_append] at h1
    exact fun hx => h1.2.2 j hx j (by simp) rfl
  have hul := hg.ul
  have hjl : j < l.length := hg.rep.lt j ((hmem j).2 (.inl rfl))
  refine ⟨T', mv.root, ⟨mv.rep, mv.avl, e1, ?_, ?_, by rw [List.length_set, hul, hlen2, hlen], hp.nodup_iff.1 hnd0, fun p hp => ?_, fun p hp => ?_, fun p hp => ?_, hg.rr, by rw [hlen2, hlen]; exact hg.room⟩⟩
  · exact hg.srt.sublist List.erase_sublist
  · have hsz : (T'.ino.length : Int) ≤ 5000 := by
      rw [e1]
      have h1 := hg.small.2.2.2
      have h2 := (List.erase_sublist (a := k) (l := ks)).length_le
      omega
    exact lk_of mv.rep hlen2 hsz hlk fun p hp => mv.fr p (by rw [← mv.ids]; exact hp)
  · rw [hlen2, hlen] at hp
    rcases hg.all p hp with h | h
    · rcases (hmem p).1 h with h | h
      · exact .inr (by simp [h])
      · exact .inl h
    · exact .inr (by simp [h])
  · rw [hlen2, hlen]
    rw [List.mem_append, List.mem_singleton] at hp
    rcases hp with hp | rfl
    · exact hg.lt p hp
    · exact hjl
  · rw [List.getElem?_set_ne (show j ≠ p from fun e => hj (e ▸ hp))]
    exact hg.on p ((hmem p).2 (.inr hp))
theorem delete_tri (t : Nat) (rm : Int) (ks : List Key) (k : Key) : Tri Tryz.prog N_rbtree_Tree_Delete [.lf (.ptr (some ⟨t, 0⟩)), .agg (Ks.mk [.int .u64, .int .u64] k)] [.lf (.int .i64)] (tree rm t ks) (fun r => pur (r = (delK ks k).1) (tree rm t (delK ks k).2)) :=
  tri_0 (call_rbtree_Tree_Delete _ k) fun w0 S R h => by
    unfold W_rbtree_Tree_Delete
    obtain ⟨l, T, us, fr, a0, s, s1, s2, hg, h⟩ := h.tree rm t
    obtain ⟨b1, b2, b3, b4⟩ := hg.small
    have hs : Srt T.ino := by rw [hg.ino]; exact hg.srt
    refine w_new h fun n1 w h => w_ite (fun c => (by cases c)) fun _ => w_ldAll (x := k) h rfl ?_
    refine w_call (way_tri t (some ⟨a0, 0⟩) s ks.length rm l T hg.rep b1 b2 k) h fun q w h => ?_
    refine w_ldAll (x := k) h rfl ?_
    refine w_call (found_tri t (some ⟨a0, 0⟩) s ks.length rm l T hg.rep hs b2 k q (T.rt + 1)) h fun r w h => ?_
    obtain ⟨hr, h⟩ := h.purP
    rw [hr]
    unfold delK
    rcases find_in hg k with ⟨hk, c, hf, eks, g1, g2⟩ | ⟨hk, L, i, Rr, c, hf, hfill⟩
    · rw [if_neg hk]
      rw [hf]
      refine w_ite (fun _ => ?_) fun c => (by simp [Tr.rt] at c)
      exact Own.retP rfl (h.mkTree t l T us fr a0 s s1 s2 hg).keep
    rw [if_pos hk]
    have eri : ((.n L i k Rr, c) : Tr × List Stp).1.rt = (i : Int) := rfl
    rw [hf] at h ⊢
    rw [eri]
    have hR : Rep l (fill (.n L i k Rr) c) := by rw [hfill]; exact hg.rep
    have hA : (fill (.n L i k Rr) c).avl := by rw [hfill]; exact hg.avl
    obtain ⟨r1, r2⟩ := rep_fill hR
    obtain ⟨hin, hnt⟩ := rep_in r1
    have eks : ks = lk c ++ (L.ino ++ k :: Rr.ino) ++ rk c := by rw [← hg.ino, ← hfill, fill_ino]; rfl
    have hcl : c.length + szT (.n L i k Rr) ≤ 4096 := by have := fill_sz c (.n L i k Rr); rw [hfill] at this; omega
    have hsrt := hg.srt
    have hknot : k ∉ lk c ++ L.ino := fun hx => by
      rw [eks] at hsrt
      have e : lk c ++ (L.ino ++ k :: Rr.ino) ++ rk c = (lk c ++ L.ino) ++ k :: (Rr.ino ++ rk c) := by simp
      rw [e] at hsrt
      have := (hsrt.mid (m := k)).1 k hx
      rw [klt_irr] at this; cases this
    have hera : ks.erase k = lk c ++ L.ino ++ (Rr.ino ++ rk c) := by
      have e : lk c ++ (L.ino ++ k :: Rr.ino) ++ rk c = (lk c ++ L.ino) ++ k :: (Rr.ino ++ rk c) := by simp
      rw [eks, e, erase_mid hknot]
    have hdT : T.ids.Nodup := (List.nodup_append.1 hg.nd).1
    have eids : T.ids = lc c ++ (L.ids ++ i :: Rr.ids) ++ rc c := by rw [← hfill, fill_ids]; rfl
    refine w_ite (fun c => (by have c : ((i : Int) == -1) = true := c; simp at c)) fun _ => ?_
    -- what is behind, wherever it is taken out
    have fin : ∀ (w : World) (l1 : List Nd) (a b : Tr) (j : Nat) (m : Key) (c1 : List Stp) (q1 : Sl), Rep l1 (fill (.n a j m b) c1) → (a = .e ∨ b = .e) → (fill (.n a j m b) c1).avl → (fill (.n a j m b) c1).ids = T.ids → Lk l1 5000 → l1.length = l.length →
        lk c1 ++ (a.ino ++ b.ino) ++ rk c1 = ks.erase k → c1.length ≤ 4096 →
        Own w0 S R w (arr q1 KI ((way c1).reverse ++ [(j : Int)]) ^ blk t [.ptr (some ⟨a0, 0⟩), .sl s, .int .i64 (T.rt + 1), .int .i64 ks.length, .int .i64 rm] ^ arr s KN l1 ^ blk a0 [.sl s1, .sl s2, .int .i64 rm] ^ arr s1 KB us ^ arr s2 KI (fr.map fun x : Nat => (x : Int)) ^ emp) →
        (deref (some ⟨t, 0⟩) fun q33 =>
  ld [.sl] ⟨q33.b, q33.o + 1⟩ fun (x34 : Sl) =>
  idx x34 (j : Int) 5 fun q35 =>
  ld [.int .i64] ⟨q35.b, q35.o + 2⟩ fun (x36 : Int) =>
  join [.int .i64] (fun J37 =>
  ite' (x36 == (-1:Int)) (
  deref (some ⟨t, 0⟩) fun q39 =>
  ld [.sl] ⟨q39.b, q39.o + 1⟩ fun (x40 : Sl) =>
  idx x40 (j : Int) 5 fun q41 =>
  ld [.int .i64] ⟨q41.b, q41.o + 3⟩ fun (x42 : Int) =>
  J37 x42) <|
  J37 x36) fun (y38 : Int) =>
  slc q1 none (some (IntKind.i64.wrap (((q1.len : Nat) : Int) - (1:Int)))) none 1 fun s43 =>
  call Tryz.prog N_rbtree_Tree_drop [.lf (.ptr (some ⟨t, 0⟩)), .lf (.sl s43), .lf (.int .i64 (j : Int)), .lf (.int .i64 y38)] [] fun (r44 : Unit) =>
  deref (some ⟨t, 0⟩) fun q45 =>
  ld [.int .i64] ⟨q45.b, q45.o + 3⟩ fun (x46 : Int) =>
  deref (some ⟨t, 0⟩) fun q47 =>
  st ⟨q47.b, q47.o + 3⟩ [.int .i64 (IntKind.i64.wrap (x46 - (1:Int)))] <|
  deref (some ⟨t, 0⟩) fun q48 =>
  ld [.ptr] q48 fun (x49 : Option Pt) =>
  call Tryz.prog N_arena_Arena_Free [.lf (.ptr x49), .lf (.int .i64 (j : Int))] [.lf (.int .i64)] fun (r50 : Int) =>
  fun w => Own w0 S R w (pur (r50 = 0) (tree rm t (ks.erase k)))) w := by
      intro w l1 a b j m c1 q1 hR hab hA hids hlk hlen hino hc1 h
      obtain ⟨T', hroot, hgood⟩ := good_del (us := us) (fr := fr) (k := k) hg hR hab hA hids hlk hlen hino
      obtain ⟨r1, r2⟩ := rep_fill hR
      obtain ⟨hin, hnt⟩ := rep_in r1
      have el : Tree.lt l1 (j : Int) = a.rt := by rw [Tree.lt, hnt]
      have er : rtt l1 (j : Int) = b.rt := by rw [rtt, hnt]
      have hlq := (h.rd (s := q1)).2
      have hjT : j ∈ T.ids := by rw [← hids, fill_ids]; simp [Tr.ids]
      have hjl := hg.rep.lt j hjT
      have hul := hg.ul
      refine w_deref (w_ld h rfl (w_ix (s := s) h hin (rdL h hin ?_)))
      rw [el]
      have h : Own w0 S R w (arr q1 KI ((way c1).reverse ++ [(j : Int)]) ^ (blk t [.ptr (some ⟨a0, 0⟩), .sl s, .int .i64 (T.rt + 1), .int .i64 ks.length, .int .i64 rm] ^ arr s KN l1) ^ blk a0 [.sl s1, .sl s2, .int .i64 rm] ^ arr s1 KB us ^ arr s2 KI (fr.map fun x : Nat => (x : Int)) ^ emp) := h.fin
      refine w_join h (fun _ => arr q1 KI ((way c1).reverse ++ [(j : Int)]) ^ (blk t [.ptr (some ⟨a0, 0⟩), .sl s, .int .i64 (T.rt + 1), .int .i64 ks.length, .int .i64 rm] ^ arr s KN l1) ^ blk a0 [.sl s1, .sl s2, .int .i64 rm] ^ arr s1 KB us ^ arr s2 KI (fr.map fun x : Nat => (x : Int)) ^ emp) (fun y : Int => y = (kid a b).rt) (fun (y : Int) w hy h => ?_) ?_
      · rw [hy]
        have hwl : ((way c1).reverse ++ [(j : Int)]).length = c1.length + 1 := by simp [way]
        have e : IntKind.i64.wrap (((q1.len : Nat) : Int) - 1) = (c1.length : Int) := by rw [hlq, hwl, wi (by omega) (by omega)]; omega
        rw [e]
        have hcap := own_cap (s := q1) h
        refine w_slc (s := q1) h 0 c1.length q1.cap rfl rfl rfl rfl (by omega) (by omega) (by omega) (by omega) fun s' _ _ h => ?_
        have e2 : (((way c1).reverse ++ [(j : Int)]).take c1.length).drop 0 = (way c1).reverse := by
          have : c1.length = (way c1).reverse.length := by simp [way]
          rw [this, List.take_left]; rfl
        have h := h.arrEq (s := s') (K := KI) e2
        have hkid : (kid a b).rt = -1 ∨ In l1 (kid a b).rt := by
          have rin : ∀ t : Tr, Rep l1 t → t.rt = -1 ∨ In l1 t.rt := fun t ht => by
            cases t with
            | e => exact .inl rfl
            | n L i k R => exact .inr (rep_in ht).1
          cases a with
          | e => exact rin b r1.2.2
          | n a1 i2 k2 a2 => exact rin _ r1.2.1
        refine w_callL (A := blk t [.ptr (some ⟨a0, 0⟩), .sl s, .int .i64 (T.rt + 1), .int .i64 ks.length, .int .i64 rm] ^ arr s KN l1) (Q := rarr s' KI (way c1).reverse) (drop_tri t (some ⟨a0, 0⟩) s (T.rt + 1) ks.length rm l1 s' (way c1).reverse j (kid a b).rt (fun x hx => way_in r2 x (List.mem_reverse.1 hx)) hkid 5000 hlk (by omega) (by simp [way]; omega) (by omega)) h fun _ w h => ?_
        rw [List.reverse_reverse, hroot] at h
        refine w_deref (w_ld h rfl (w_deref (w_set h rfl fun w h => ?_)))
        dsimp only [upd, over] at h
        have hkn : ks.length = (ks.erase k).length + 1 := by rw [List.length_erase_of_mem hk]; have := List.length_pos_of_mem hk; omega
        have ew : IntKind.i64.wrap ((ks.length : Int) - 1) = ((ks.erase k).length : Int) := by rw [wi (by omega) (by omega)]; omega
        rw [ew] at h
        refine w_deref (w_ld h rfl ?_)
        refine w_call (free_tri a0 s1 s2 us (fr.map fun x : Nat => (x : Int)) rm (j : Int) ⟨by omega, by rw [Int.toNat_natCast]; omega⟩ (by rw [Int.toNat_natCast]; exact hg.on j hjT) (by rw [hul]; exact hg.room) (by rw [List.length_map]; omega)) h fun r w h => ?_
        obtain ⟨s2', h⟩ := h.exP
        obtain ⟨hr, h⟩ := h.purP
        rw [Int.toNat_natCast] at h
        have h := h.arrEq (s := s2') (K := KI) (ys := ((fr ++ [j]).map fun x : Nat => (x : Int))) (by simp)
        exact Own.retP hr (h.mkTree t _ T' (us.set j false) (fr ++ [j]) a0 s s1 s2' hgood).keep
      · refine w_ite (fun c => ?_) fun c => ?_
        · have c : a.rt = -1 := by simpa using c
          have ha : a = .e := by
            cases a with
            | e => rfl
            | n a1 i2 k2 a2 => simp only [Tr.rt] at c; omega
          refine w_deref (w_ld h rfl (w_ix (s := s) h hin (rdR h hin ?_)))
          exact ⟨by rw [er, ha]; rfl, h⟩
        · have c : a.rt ≠ -1 := by simpa using c
          refine ⟨?_, h⟩
          cases a with
          | e => exact absurd rfl c
          | n a1 i2 k2 a2 => rfl
    have el : Tree.lt l (i : Int) = L.rt := by rw [Tree.lt, hnt]
    have er : rtt l (i : Int) = Rr.rt := by rw [rtt, hnt]
    have h : Own w0 S R w (arr q KI ((way c).reverse ++ [(i : Int)]) ^ blk t [.ptr (some ⟨a0, 0⟩), .sl s, .int .i64 (T.rt + 1), .int .i64 ks.length, .int .i64 rm] ^ arr s KN l ^ blk a0 [.sl s1, .sl s2, .int .i64 rm] ^ arr s1 KB us ^ arr s2 KI (fr.map fun x : Nat => (x : Int)) ^ emp) := (h.arrEq (s := q) (K := KI) (ys := (way c).reverse ++ [(i : Int)]) rfl).fin
    refine ⟨_, fun _ _ h => h, ?_⟩
    refine w_join h (fun _ => arr q KI ((way c).reverse ++ [(i : Int)]) ^ blk t [.ptr (some ⟨a0, 0⟩), .sl s, .int .i64 (T.rt + 1), .int .i64 ks.length, .int .i64 rm] ^ arr s KN l ^ blk a0 [.sl s1, .sl s2, .int .i64 rm] ^ arr s1 KB us ^ arr s2 KI (fr.map fun x : Nat => (x : Int)) ^ emp) (fun y : Bool => y = (nE L && nE Rr)) (fun (y : Bool) w hy h => ?_) ?_
    · rw [hy]
      refine w_ite (fun c2 => ?_) fun c2 => ?_
      · rw [Bool.and_eq_true] at c2
        have hLn : L ≠ .e := fun e => by rw [e] at c2; exact absurd c2.1 (by simp [nE])
        have hRn : Rr ≠ .e := fun e => by rw [e] at c2; exact absurd c2.2 (by simp [nE])
        refine w_deref (w_ld h rfl (w_ix (s := s) h hin (rdR h hin ?_)))
        rw [er]
        simp only [szT] at hcl
        refine w_call (least_tri t (some ⟨a0, 0⟩) s ks.length rm l Rr r1.2.2 (by omega) (T.rt + 1)) h fun q2 w h => ?_
        obtain ⟨j, m, b, e1, d, e2, e3, e4⟩ := least_n Rr (.R L i k :: c) hRn
        have hfl : fill (.n .e j m b) d = Rr := by
          have h1 := least_fill Rr (.R L i k :: c)
          rw [e1, e2, fill_app] at h1
          obtain ⟨j', m', b', e1', d', e2', _⟩ := least_n Rr [] hRn
          have h2 := least_fill Rr []
          have h3 := least_way Rr []
          have h4 := least_way Rr (.R L i k :: c)
          have key : ∀ (t : Tr) (c : List Stp), leastC t c = ((leastC t []).1, (leastC t []).2 ++ c) := by
            have : ∀ (t : Tr) (c c0 : List Stp), leastC t (c0 ++ c) = ((leastC t c0).1, (leastC t c0).2 ++ c) := by
              intro t
              induction t with
              | e => intro c c0; rfl
              | n l i x r ihl _ =>
                intro c c0
                cases l with
                | e => rfl
                | n a1 i1 x1 b1 =>
                  simp only [leastC]
                  exact ihl c (.L i x r :: c0)
            intro t c
            have := this t c []
            simpa using this
          have hk2 := key Rr (.R L i k :: c)
          have ed : d = (leastC Rr []).2 := by
            have : (leastC Rr (.R L i k :: c)).2 = (leastC Rr []).2 ++ (.R L i k :: c) := by rw [hk2]
            rw [e2] at this
            exact List.append_cancel_right this
          have et : (leastC Rr []).1 = .n .e j m b := by
            have : (leastC Rr (.R L i k :: c)).1 = (leastC Rr []).1 := by rw [hk2]
            rw [← this, e1]
          rw [ed, ← et]; exact h2
        have hway := least_way Rr (.R L i k :: c)
        rw [e1, e2] at hway
        have hll : leastL Rr = (way d).reverse ++ [(j : Int)] := by
          simp only [top1, way, List.map_append, List.reverse_append, List.append_assoc] at hway
          exact (List.append_cancel_left hway).symm
        have hRino : Rr.ino = m :: (b.ino ++ rk d) := by rw [← hfl, fill_ino, e3]; simp [Tr.ino]
        have hRids : Rr.ids = j :: (b.ids ++ rc d) := by rw [← hfl, fill_ids, e4]; simp [Tr.ids]
        have hszd : d.length + szT b + 1 ≤ szT Rr := by have := fill_sz d (.n .e j m b); rw [hfl] at this; simp only [szT] at this; omega
        have hRR : Rep l (fill (.n .e j m b) d) := by rw [hfl]; exact r1.2.2
        obtain ⟨u1, u2⟩ := rep_fill hRR
        obtain ⟨hjn, hjt⟩ := rep_in u1
        have hlq2 := (h.rd (s := q2)).2
        have hql : q2.len = d.length + 1 := by rw [hlq2, hll]; simp [way]
        have ew : IntKind.i64.wrap (((q2.len : Nat) : Int) - 1) = (d.length : Int) := by rw [hql, wi (by omega) (by omega)]; omega
        rw [ew]
        have hat : (leastL Rr)[((d.length : Nat) : Int).toNat]? = some (j : Int) := by
          rw [hll, Int.toNat_natCast]
          have : d.length = (way d).reverse.length := by simp [way]
          rw [this]; simp
        refine w_idx (s := q2) h (by omega) (by rw [hll]; simp [way]) (w_ldE h q2 _ hat rfl ?_)
        refine w_drw h fun w h => w_deref (w_deref (w_ld h rfl (w_ld h rfl (w_ix (s := s) h hjn (rdK h hjn (w_ix (s := s) h hin ?_))))))
        have ekj : keyL l (j : Int) = m := by rw [keyL, hjt]
        rw [ekj]
        refine w_stA h s i 0 (nth l (i : Int)) (m.1, m.2, L.rt, Rr.rt, max L.ht Rr.ht + 1) (by have := nth_at hin; rwa [Int.toNat_natCast] at this) (by rw [Int.toNat_natCast]; rfl) (by simp [Ks.mk]) (by simp [Ks.mk]) (by rw [hnt]; rfl) fun w h => ?_
        have hql1 := (h.rd (s := q2)).2
        have h := h.arrEq (s := s) (K := KN) (ys := l.set i (m.1, m.2, L.rt, Rr.rt, max L.ht Rr.ht + 1)) rfl
        refine w_app (s := q) (x := q2) h rfl (by rw [hll]; simp [way]; omega) fun s32 w _ h => ?_
        have hil : i < l.length := hg.rep.lt i (by rw [eids]; simp)
        have hR1 : Rep (l.set i (m.1, m.2, L.rt, Rr.rt, max L.ht Rr.ht + 1)) (fill (.n L i m Rr) c) := by
          have hd2 := hdT
          rw [eids] at hd2
          simp only [List.nodup_append, List.nodup_cons, List.mem_append, List.mem_cons] at hd2
          obtain ⟨⟨hd3, ⟨hd4, ⟨hd5, hd6⟩, hd7⟩, hd8⟩, hd9, hd10⟩ := hd2
          have ne : ∀ p, (p ∈ lc c ∨ p ∈ L.ids ∨ p ∈ Rr.ids ∨ p ∈ rc c) → (l.set i (m.1, m.2, L.rt, Rr.rt, max L.ht Rr.ht + 1))[p]? = l[p]? := fun p hp => by
            refine List.getElem?_set_ne (show i ≠ p from fun e => ?_)
            subst e
            rcases hp with hp | hp | hp | hp
            · exact hd8 i hp i (.inr (.inl rfl)) rfl
            · exact hd7 i hp i (.inl rfl) rfl
            · exact hd5 hp
            · exact hd10 i (.inr (.inr (.inl rfl))) i hp rfl
          refine rep_swap (t := .n L i k Rr) rfl rfl hR ⟨by rw [List.getElem?_set_self hil], r1.2.1.frame fun p hp => ne p (.inr (.inl hp)), r1.2.2.frame fun p hp => ne p (.inr (.inr (.inl hp)))⟩ fun p hp => ne p (hp.imp (fun x => x) fun x => .inr (.inr x))
        have hA1 : (fill (.n L i m Rr) c).avl := by
          have hav : (Tr.n L i k Rr).avl := fill_avl hA
          exact avl_swap (t := .n L i k Rr) rfl ⟨hav.1, hav.2.1, hav.2.2⟩ hA
        have hT1 : fill (.n L i m Rr) c = fill (.n .e j m b) (d ++ .R L i m :: c) := by rw [fill_app, hfl]; rfl
        have hlk1 : Lk (l.set i (m.1, m.2, L.rt, Rr.rt, max L.ht Rr.ht + 1)) 5000 := by
          have hx := hg.lk (i : Int) hin
          simp only [Tree.lt, rtt, hh, hnt] at hx
          have := hg.lk.set (C := 5000) (Int.le_refl _) (i := (i : Int)) hin (x := (m.1, m.2, L.rt, Rr.rt, max L.ht Rr.ht + 1)) hx.1 hx.2.1 hx.2.2
          rwa [Int.toNat_natCast] at this
        have h := h.arrEq (s := s32) (K := KI) (ys := (way (d ++ .R L i m :: c)).reverse ++ [(j : Int)]) (by rw [hll]; simp [way, Stp.i])
        refine fin w (l.set i (m.1, m.2, L.rt, Rr.rt, max L.ht Rr.ht + 1)) .e b j m (d ++ .R L i m :: c) s32 (by rw [← hT1]; exact hR1) (.inl rfl) (by rw [← hT1]; exact hA1) ?_ hlk1 List.length_set ?_ (by simp; omega) h.fin
        · rw [← hT1, fill_ids, eids]; rfl
        · rw [hera, lk_app, rk_app, e3, hRino]
          simp [lk, rk, Tr.ino]
      · have hab : L = .e ∨ Rr = .e := by
          cases L with
          | e => exact .inl rfl
          | n l1 i1 k1 l2 => cases Rr with
            | e => exact .inr rfl
            | n l3 i3 k3 l4 => cases c2
        simp only [szT] at hcl
        exact fin w l L Rr i k c q hR hab hA (by rw [hfill]) hg.lk rfl (by rw [hera]; simp) (by omega) h
    · refine w_deref (w_ld h rfl (w_ix (s := s) h hin (rdL h hin ?_)))
      rw [el]
      refine w_ite (fun c2 => ?_) fun c2 => ?_
      · have c2 : L.rt ≠ -1 := by simpa using c2
        refine w_deref (w_ld h rfl (w_ix (s := s) h hin (rdR h hin ?_)))
        rw [er]
        refine ⟨?_, h⟩
        cases L with
        | e => exact absurd rfl c2
        | n l1 i1 k1 l2 =>
          cases Rr with
          | e => simp [nE, Tr.rt]
          | n l3 i3 k3 l4 => simp [nE, Tr.rt]
      · have c2 : L.rt = -1 := by simpa using c2
        refine ⟨?_, h⟩
        cases L with
        | e => rfl
        | n l1 i1 k1 l2 => simp only [Tr.rt] at c2; omega
end TreeE

namespace TreeF
open _root_.Go.X.Tree TreeA TreeB TreeC TreeD TreeE
/-- From a tree down to the left, the last one the least. -/
def spine : Tr → List Tr
  | .e => []
  | .n l i k r => .n l i k r :: spine l
def oneT : Tr → List Key
  | .e => []
  | .n _ _ k r => k :: r.ino
/-- What is still to be told. -/
def remT (st : List Tr) : List Key := st.reverse.flatMap oneT
theorem rem_spine : ∀ t : Tr, remT (spine t) = t.ino
  | .e => rfl
  | .n l i k r => by
    have := rem_spine l
    simp only [spine, remT, List.reverse_cons, List.flatMap_append, List.flatMap_cons, List.flatMap_nil, Tr.ino, oneT] at *
    rw [this]; simp
theorem rem_app (a b : List Tr) : remT (a ++ b) = remT b ++ remT a := by simp [remT]
def rts (st : List Tr) : List Int := st.map Tr.rt
theorem rts_spine : ∀ t : Tr, rts (spine t) = leastL t
  | .e => rfl
  | .n l i k r => by
    have := rts_spine l
    simp only [rts, spine, List.map_cons, leastL, Tr.rt] at *
    rw [this]
theorem spine_n : ∀ (t : Tr), ∀ x ∈ spine t, ∃ l i k r, x = .n l i k r
  | .e, x, h => by simp [spine] at h
  | .n l i k r, x, h => by
    simp only [spine, List.mem_cons] at h
    rcases h with rfl | h
    · exact ⟨l, i, k, r, rfl⟩
    · exact spine_n l x h
theorem spine_rep {l : List Nd} : ∀ {t : Tr}, Rep l t → ∀ x ∈ spine t, Rep l x
  | .e, _, x, h => by simp [spine] at h
  | .n a i k r, h, x, hx => by
    simp only [spine, List.mem_cons] at hx
    rcases hx with rfl | hx
    · exact h
    · exact spine_rep h.2.1 x hx
theorem len_rem (st : List Tr) (h : ∀ x ∈ st, ∃ l i k r, x = .n l i k r) : st.length ≤ (remT st).length := by
  induction st with
  | nil => simp
  | cons x st ih =>
    have := ih fun y hy => h y (by simp [hy])
    obtain ⟨l, i, k, r, rfl⟩ := h x (by simp)
    have e : remT (.n l i k r :: st) = remT st ++ (k :: r.ino) := by
      simp [remT, oneT]
    rw [e]; simp; omega
def mkAll (n : Nat) : Fv := .mk (.func N_rbtree_Tree_All_c1) [] [V1.enc (.lf (.ptr (some ⟨n, 0⟩)))]
theorem all_tri (p : Option Pt) : Tri Tryz.prog N_rbtree_Tree_All [.lf (.ptr p)] [.lf .fn] emp (fun f => ex fun n => pur (f = mkAll n) (blk n [.ptr p])) :=
  tri_0 (call_rbtree_Tree_All _) fun w S R h => by
    unfold W_rbtree_Tree_All
    refine w_new h fun n1 w h => ?_
    exact Own.retE n1 (Own.retP rfl h.keep)
theorem sz_ino : ∀ t : Tr, szT t = t.ino.length
  | .e => rfl
  | .n l i k r => by simp [szT, Tr.ino, sz_ino l, sz_ino r]; omega
theorem all_iter (n t : Nat) (rm : Int) (ks : List Key) : Iter Tryz.prog (mkAll n) (blk n [.ptr (some ⟨t, 0⟩)] ^ tree rm t ks) [.agg [.int .u64, .int .u64]] ks := by
  intro y I D hy
  refine Tri.g (f := N_rbtree_Tree_All_c1) (args := [.lf (.fn y)]) (caps := [.lf (.ptr (some ⟨n, 0⟩))]) (tri_0 (call_rbtree_Tree_All_c1 y ⟨n, 0⟩) fun w0 S R h => ?_)
  unfold W_rbtree_Tree_All_c1
  obtain ⟨l, T, us, fr, a, s, s1, s2, hg, h⟩ := h.tree rm t
  obtain ⟨b1, b2, b3, b4⟩ := hg.small
  have hino := hg.ino
  refine w_ld h rfl ?_
  refine w_call (root_tri t (some ⟨a, 0⟩) s ks.length rm l T hg.rep b1) h fun r w h => ?_
  obtain ⟨hr, h⟩ := h.purP; rw [hr]
  refine w_ite (fun c => ?_) fun c => ?_
  · have c : T.rt = -1 := by simpa using c
    have hT : T = .e := by
      cases T with
      | e => rfl
      | n L i k R => simp only [Tr.rt] at c; omega
    have hk : ks.length = 0 := by rw [← hino, hT]; rfl
    have h := (h.mkTree t l T us fr a s s1 s2 hg)
    have h : Own _ _ _ _ (I 0 ^ blk n [.ptr (some ⟨t, 0⟩)] ^ tree rm t ks) := h.fin
    rw [hk]
    exact (h.eitherL D).fin
  refine w_drw h fun w h => w_ld h rfl (w_ld h rfl ?_)
  refine w_call (root_tri t (some ⟨a, 0⟩) s ks.length rm l T hg.rep b1) h fun r w h => ?_
  obtain ⟨hr, h⟩ := h.purP; rw [hr]
  refine w_chk h rfl ?_
  refine w_call (least_tri t (some ⟨a, 0⟩) s ks.length rm l T hg.rep b2 (T.rt + 1)) h fun q w h => ?_
  have h := h.arrEq (s := q) (K := KI) (ys := rts (spine T)) (rts_spine T).symm
  have h : Own w0 S R w (arr q KI (rts (spine T)) ^ (blk t [.ptr (some ⟨a, 0⟩), .sl s, .int .i64 (T.rt + 1), .int .i64 ks.length, .int .i64 rm] ^ arr s KN l) ^ blk a [.sl s1, .sl s2, .int .i64 rm] ^ arr s1 KB us ^ arr s2 KI (fr.map fun x : Nat => (x : Int)) ^ blk n [.ptr (some ⟨t, 0⟩)] ^ I 0) := h.fin
  refine w_loopE (fun (q : Sl) (x : Nat × List Tr) => arr q KI (rts x.2) ^ (blk t [.ptr (some ⟨a, 0⟩), .sl s, .int .i64 (T.rt + 1), .int .i64 ks.length, .int .i64 rm] ^ arr s KN l) ^ blk a [.sl s1, .sl s2, .int .i64 rm] ^ arr s1 KB us ^ arr s2 KI (fr.map fun x : Nat => (x : Int)) ^ blk n [.ptr (some ⟨t, 0⟩)] ^ I x.1)
    (fun (_ : Sl) (x : Nat × List Tr) => ks.drop x.1 = remT x.2 ∧ (∀ z ∈ x.2, ∃ l i k r, z = .n l i k r) ∧ (∀ z ∈ x.2, Rep l z) ∧ x.1 ≤ ks.length) (fun (_ : Sl) (x : Nat × List Tr) => ks.length - x.1) (0, spine T) h ⟨by rw [rem_spine, hino]; rfl, spine_n T, spine_rep hg.rep, Nat.zero_le _⟩ ?_
  rintro K (q : Sl) ⟨i, st⟩ w ⟨hd, hn, hrep, hle⟩ h hK
  dsimp only at hd hn hrep hle h hK ⊢
  have hlq := (h.rd (s := q)).2
  have hst := len_rem st hn
  rw [← hd, List.length_drop] at hst
  have hrl : (rts st).length = st.length := by simp [rts]
  refine w_ite (fun c => ?_) fun c => ?_
  · have c : ((q.len : Nat) : Int) > 0 := of_decide_eq_true c
    have hne : st ≠ [] := fun e => by
      have e2 : (rts st).length = 0 := (congrArg (fun z => (rts z).length) e).trans rfl
      omega
    obtain ⟨f, z, hfz⟩ : ∃ f z, st = f ++ [z] := ⟨st.dropLast, st.getLast hne, (List.dropLast_concat_getLast hne).symm⟩
    obtain ⟨L, j, m, Rr, hz⟩ := hn z (by rw [hfz]; simp)
    have hRz : Rep l (.n L j m Rr) := by rw [← hz]; exact hrep z (by rw [hfz]; simp)
    obtain ⟨hin, hnt⟩ := rep_in hRz
    have er : rtt l (j : Int) = Rr.rt := by rw [rtt, hnt]
    have ek : keyL l (j : Int) = m := by rw [keyL, hnt]
    have hfl : st.length = f.length + 1 := by rw [hfz]; simp
    have hrs : rts st = rts f ++ [(j : Int)] := by rw [hfz, hz]; simp [rts, Tr.rt]
    have hrf : (rts f).length = f.length := by simp [rts]
    have e : IntKind.i64.wrap (((q.len : Nat) : Int) - 1) = (f.length : Int) := by rw [wi (by omega) (by omega)]; omega
    rw [e]
    refine w_idx (s := q) h (by omega) (by omega) (w_ldE h q ((f.length : Nat) : Int).toNat (y := (j : Int)) (by rw [hrs, Int.toNat_natCast, ← hrf]; simp) rfl ?_)
    have hcap := own_cap (s := q) h
    refine w_slc (s := q) h 0 f.length q.cap rfl rfl rfl rfl (by omega) (by omega) (by omega) (by omega) fun s11 _ _ h => ?_
    have h := h.arrEq (s := s11) (K := KI) (ys := rts f) (by rw [hrs, ← hrf, List.take_left]; rfl)
    have hks : ks.drop i = m :: (Rr.ino ++ remT f) := by
      rw [hd, hfz, rem_app, hz]; simp [remT, oneT]
    have hki : ks[i]? = some m := by
      have := congrArg (fun z => z[0]?) hks
      simpa using this
    have hil : i < ks.length := (List.getElem?_eq_some_iff.1 hki).1
    refine w_ld h rfl (w_deref (w_ld h rfl (w_ix (s := s) h hin (rdK h hin ?_))))
    rw [ek]
    have ht : TriV Tryz.prog y [.agg (Ks.mk [.int .u64, .int .u64] m)] [.lf .bool] (I i) (fun c => cond c (I (i + 1)) D) := hy i m hki
    refine w_callv ht h fun c w h => ?_
    cases c with
    | false =>
      refine w_ite (fun c => ?_) fun c => by cases c
      have h : Own _ _ _ _ (D ^ _) := h
      have h := (h.mkTree t l T us fr a s s1 s2 hg)
      have h : Own _ _ _ _ (D ^ blk n [.ptr (some ⟨t, 0⟩)] ^ tree rm t ks) := h.fin
      exact (h.eitherR (I ks.length)).fin
    | true =>
      refine w_ite (fun c => by cases c) fun c => ?_
      have h : Own _ _ _ _ (I (i + 1) ^ _) := h
      refine w_drw h fun w h => w_ld h rfl (w_ld h rfl (w_deref (w_ld h rfl (w_ix (s := s) h hin (rdR h hin ?_)))))
      rw [er]
      have hsz : szT Rr ≤ 4096 := by
        have h1 := congrArg List.length hks
        rw [List.length_drop] at h1
        have h2 := sz_ino Rr
        simp at h1; omega
      refine w_call (least_tri t (some ⟨a, 0⟩) s ks.length rm l Rr hRz.2.2 hsz (T.rt + 1)) h fun q2 w h => ?_
      have hl2 : (leastL Rr).length ≤ 4096 := by
        have h1 := len_rem (spine Rr) (spine_n Rr)
        rw [rem_spine] at h1
        have h2 : (leastL Rr).length = (spine Rr).length := by rw [← rts_spine]; simp [rts]
        have h3 := sz_ino Rr
        omega
      refine w_app (s := s11) (x := q2) h rfl (by omega) fun s25 w _ h => ?_
      have h := h.arrEq (s := s25) (K := KI) (ys := rts (f ++ spine Rr)) (by rw [← rts_spine]; simp [rts])
      refine hK s25 (i + 1, f ++ spine Rr) w ⟨?_, fun z hz => ?_, fun z hz => ?_, by show i + 1 ≤ _; omega⟩ h.fin (by show _ - (i + 1) < _ - i; omega)
      · show ks.drop (i + 1) = remT (f ++ spine Rr)
        rw [rem_app, rem_spine]
        have := congrArg (fun z => z.drop 1) hks
        simpa using this
      · rcases List.mem_append.1 hz with hz | hz
        · exact hn z (by rw [hfz]; simp [hz])
        · exact spine_n Rr z hz
      · rcases List.mem_append.1 hz with hz | hz
        · exact hrep z (by rw [hfz]; simp [hz])
        · exact spine_rep hRz.2.2 z hz
  · have c : ¬ ((q.len : Nat) : Int) > 0 := of_decide_eq_false c
    have hst0 : st = [] := List.eq_nil_of_length_eq_zero (by omega)
    rw [hst0] at hd
    have hi : i = ks.length := by
      have := congrArg List.length hd
      rw [List.length_drop] at this
      simp [remT] at this; omega
    rw [hi] at h
    have h := (h.mkTree t l T us fr a s s1 s2 hg)
    have h : Own _ _ _ _ (I ks.length ^ blk n [.ptr (some ⟨t, 0⟩)] ^ tree rm t ks) := h.fin
    exact (h.eitherL D).fin
def minF (ks : List Key) : Key × Bool := match ks with
  | [] => ((0, 0), false)
  | k :: _ => (k, true)
theorem min_tri (t : Nat) (rm : Int) (ks : List Key) : Tri Tryz.prog N_rbtree_Tree_Min [.lf (.ptr (some ⟨t, 0⟩))] [.agg [.int .u64, .int .u64], .lf .bool] (tree rm t ks) (fun r => pur (r = minF ks) (tree rm t ks)) :=
  tri_n (W := fun n R => W_rbtree_Tree_Min n (some ⟨t, 0⟩) R) (call_rbtree_Tree_Min _) fun w S R h => by
    unfold W_rbtree_Tree_Min
    refine w_new h fun n1 w h => ?_
    refine w_new h fun n2 w h => ?_
    refine w_join h (fun _ => blk n1 [.int .u64 (0:Int), .int .u64 (0:Int)] ^ blk n2 [.bool false] ^ tree rm t ks) (fun _ => ks = []) (fun y w hv h => ?_) ?_
    · refine w_setAll h (by rfl) fun w h => w_setAll h (by rfl) fun w h => ?_
      refine w_ldAll (b := n1) (x := ((0, 0) : Int × Int)) h rfl (w_ld h rfl ?_)
      refine w_leave h fun w h => ?_
      exact Own.retP (by rw [hv]; rfl) h.fin
    · refine w_call (all_tri _) (h.le (star_emp _)) fun f w h => ?_
      obtain ⟨n, h⟩ := h.exP
      obtain ⟨hf, h⟩ := h.purP
      rw [hf]
      have h := (h.take (blk n1 [.int .u64 (0:Int), .int .u64 (0:Int)] ^ blk n2 [.bool false])).toPur (p := (0 : Nat) = 0) rfl
      refine w_range (all_iter n t rm ks) (fun i => pur (i = 0) (blk n1 [.int .u64 (0:Int), .int .u64 (0:Int)] ^ blk n2 [.bool false])) (fun j => pur (j = 1) (blk n1 (Ks.mk KR (minF ks).1) ^ blk n2 [.bool (minF ks).2])) h ?_ ?_ ?_
      · rintro i (x : Key) hx w S R mid next jump rdy bsy hmid hnext hjump h
        refine w_new h fun n10 w h => w_setAll h (by rfl) fun w h => ?_
        refine hmid h fun w h => ?_
        have h := h.take (pur (i = 0) (blk n1 [.int .u64 (0:Int), .int .u64 (0:Int)] ^ blk n2 [.bool false]))
        obtain ⟨hi, h⟩ := h.purP
        have hv : minF ks = (x, true) := by
          rw [hi] at hx
          cases ks with
          | nil => cases hx
          | cons y l => cases hx; rfl
        rw [hv] at hjump
        refine w_ldAll (b := n10) (x := x) h rfl ?_
        refine w_setAll h (by rfl) fun w h => w_setAll h (by rfl) fun w h => ?_
        have h := (h.take (blk n1 (Ks.mk KR x) ^ blk n2 [.bool true])).toPur (p := 1 = 1) rfl
        exact hjump 1 (by decide) h
      · intro w h
        have h := h.take (pur (ks.length = 0) (blk n1 [.int .u64 (0:Int), .int .u64 (0:Int)] ^ blk n2 [.bool false]))
        obtain ⟨hno, h⟩ := h.purP
        exact ⟨List.eq_nil_of_length_eq_zero hno, h.fin⟩
      · intro j w hj h
        have h := h.take (pur (j = 1) (blk n1 (Ks.mk KR (minF ks).1) ^ blk n2 [.bool (minF ks).2]))
        obtain ⟨hj1, h⟩ := h.purP
        rw [hj1]
        refine w_ldAll (b := n1) (x := (minF ks).1) h rfl (w_ld h rfl ?_)
        refine w_leave h fun w h => ?_
        exact Own.retP rfl h.fin
end TreeF


end Go.X
