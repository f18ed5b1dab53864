/- Contracts and plain facts: TreeF. -/
import Derived.Test.YtjahkildlilabaaBPlain
import Derived.Test.YtjahkildlilabaaBTreeM
import Derived.Test.YtjahkildlilabaaBTreeN
import Derived.Test.YtjahkildlilabaaBTreeA
import Derived.Test.YtjahkildlilabaaBTreeB
import Derived.Test.YtjahkildlilabaaBTreeC
import Derived.Test.YtjahkildlilabaaBTreeD
import Derived.Test.YtjahkildlilabaaBTreeE
import Derived.Test.YtjahkildlilabaaXw
import Derived.Test.YtjahkildlilabaaK
import Derived.Test.YtjahkildlilabaaF0
import Derived.Test.YtjahkildlilabaaF1
set_option linter.unusedVariables false
set_option linter.unusedSimpArgs false
set_option linter.unusedSectionVars false
namespace Go.X
open Go.Proofs
namespace TreeF
open _root_.Go.X.Tree TreeA TreeB TreeC TreeD TreeE
/-- From a tree down to the left, the last one the least. -/
def spine : Tr → List Tr
  | .e => []
  | .n l i k r => .n l i k r :: spine l
def oneT : Tr → List Key
  | .e => []
  | .n _ _ k r => k :: r.ino
/-- What is still to be told. -/
def remT (st : List Tr) : List Key := st.reverse.flatMap oneT
theorem rem_spine : ∀ t : Tr, remT (spine t) = t.ino
  | .e => rfl
  | .n l i k r => by
    have := rem_spine l
    simp only [spine, remT, List.reverse_cons, List.flatMap_append, List.flatMap_cons, List.flatMap_nil, Tr.ino, oneT] at *
    rw [this]; simp
theorem rem_app (a b : List Tr) : remT (a ++ b) = remT b ++ remT a := by simp [remT]
def rts (st : List Tr) : List Int := st.map Tr.rt
theorem rts_spine : ∀ t : Tr, rts (spine t) = leastL t
  | .e => rfl
  | .n l i k r => by
    have := rts_spine l
    simp only [rts, spine, List.map_cons, leastL, Tr.rt] at *
    rw [this]
theorem spine_n : ∀ (t : Tr), ∀ x ∈ spine t, ∃ l i k r, x = .n l i k r
  | .e, x, h => by simp [spine] at h
  | .n l i k r, x, h => by
    simp only [spine, List.mem_cons] at h
    rcases h with rfl | h
    · exact ⟨l, i, k, r, rfl⟩
    · exact spine_n l x h
theorem spine_rep {l : List Nd} : ∀ {t : Tr}, Rep l t → ∀ x ∈ spine t, Rep l x
  | .e, _, x, h => by simp [spine] at h
  | .n a i k r, h, x, hx => by
    simp only [spine, List.mem_cons] at hx
    rcases hx with rfl | hx
    · exact h
    · exact spine_rep h.2.1 x hx
theorem len_rem (st : List Tr) (h : ∀ x ∈ st, ∃ l i k r, x = .n l i k r) : st.length ≤ (remT st).length := by
  induction st with
  | nil => simp
  | cons x st ih =>
    have := ih fun y hy => h y (by simp [hy])
    obtain ⟨l, i, k, r, rfl⟩ := h x (by simp)
    have e : remT (.n l i k r :: st) = remT st ++ (k :: r.ino) := by
      simp [remT, oneT]
    rw [e]; simp; omega
def mkAll (n : Nat) : Fv := .mk (.func N_rbtree_Tree_All_c1) [] [V1.enc (.lf (.ptr (some ⟨n, 0⟩)))]
theorem all_tri (p : Option Pt) : Tri Try.prog N_rbtree_Tree_All [.lf (.ptr p)] [.lf .fn] emp (fun f => ex fun n => pur (f = mkAll n) (blk n [.ptr p])) :=
  tri_0 (call_rbtree_Tree_All _) fun w S R h => by
    unfold W_rbtree_Tree_All
    refine w_new h fun n1 w h => ?_
    exact Own.retE n1 (Own.retP rfl h.keep)
theorem sz_ino : ∀ t : Tr, szT t = t.ino.length
  | .e => rfl
  | .n l i k r => by simp [szT, Tr.ino, sz_ino l, sz_ino r]; omega
theorem all_iter (n t : Nat) (rm : Int) (ks : List Key) : Iter Try.prog (mkAll n) (blk n [.ptr (some ⟨t, 0⟩)] ^ tree rm t ks) [.agg [.int .u64, .int .u64]] ks := by
  intro y I D hy
  refine Tri.g (f := N_rbtree_Tree_All_c1) (args := [.lf (.fn y)]) (caps := [.lf (.ptr (some ⟨n, 0⟩))]) (tri_0 (call_rbtree_Tree_All_c1 y ⟨n, 0⟩) fun w0 S R h => ?_)
  unfold W_rbtree_Tree_All_c1
  obtain ⟨l, T, us, fr, a, s, s1, s2, hg, h⟩ := h.tree rm t
  obtain ⟨b1, b2, b3, b4⟩ := hg.small
  have hino := hg.ino
  refine w_ld h rfl ?_
  refine w_call (root_tri t (some ⟨a, 0⟩) s ks.length rm l T hg.rep b1) h fun r w h => ?_
  obtain ⟨hr, h⟩ := h.purP; rw [hr]
  refine w_ite (fun c => ?_) fun c => ?_
  · have c : T.rt = -1 := by simpa using c
    have hT : T = .e := by
      cases T with
      | e => rfl
      | n L i k R => simp only [Tr.rt] at c; omega
    have hk : ks.length = 0 := by rw [← hino, hT]; rfl
    have h := (h.mkTree t l T us fr a s s1 s2 hg)
    have h : Own _ _ _ _ (I 0 ^ blk n [.ptr (some ⟨t, 0⟩)] ^ tree rm t ks) := h.fin
    rw [hk]
    exact (h.eitherL D).fin
  refine w_drw h fun w h => w_ld h rfl (w_ld h rfl ?_)
  refine w_call (root_tri t (some ⟨a, 0⟩) s ks.length rm l T hg.rep b1) h fun r w h => ?_
  obtain ⟨hr, h⟩ := h.purP; rw [hr]
  refine w_chk h rfl ?_
  refine w_call (least_tri t (some ⟨a, 0⟩) s ks.length rm l T hg.rep b2 (T.rt + 1)) h fun q w h => ?_
  have h := h.arrEq (s := q) (K := KI) (ys := rts (spine T)) (rts_spine T).symm
  have h : Own w0 S R w (arr q KI (rts (spine T)) ^ (blk t [.ptr (some ⟨a, 0⟩), .sl s, .int .i64 (T.rt + 1), .int .i64 ks.length, .int .i64 rm] ^ arr s KN l) ^ blk a [.sl s1, .sl s2, .int .i64 rm] ^ arr s1 KB us ^ arr s2 KI (fr.map fun x : Nat => (x : Int)) ^ blk n [.ptr (some ⟨t, 0⟩)] ^ I 0) := h.fin
  refine w_loopE (fun (q : Sl) (x : Nat × List Tr) => arr q KI (rts x.2) ^ (blk t [.ptr (some ⟨a, 0⟩), .sl s, .int .i64 (T.rt + 1), .int .i64 ks.length, .int .i64 rm] ^ arr s KN l) ^ blk a [.sl s1, .sl s2, .int .i64 rm] ^ arr s1 KB us ^ arr s2 KI (fr.map fun x : Nat => (x : Int)) ^ blk n [.ptr (some ⟨t, 0⟩)] ^ I x.1)
    (fun (_ : Sl) (x : Nat × List Tr) => ks.drop x.1 = remT x.2 ∧ (∀ z ∈ x.2, ∃ l i k r, z = .n l i k r) ∧ (∀ z ∈ x.2, Rep l z) ∧ x.1 ≤ ks.length) (fun (_ : Sl) (x : Nat × List Tr) => ks.length - x.1) (0, spine T) h ⟨by rw [rem_spine, hino]; rfl, spine_n T, spine_rep hg.rep, Nat.zero_le _⟩ ?_
  rintro K (q : Sl) ⟨i, st⟩ w ⟨hd, hn, hrep, hle⟩ h hK
  dsimp only at hd hn hrep hle h hK ⊢
  have hlq := (h.rd (s := q)).2
  have hst := len_rem st hn
  rw [← hd, List.length_drop] at hst
  have hrl : (rts st).length = st.length := by simp [rts]
  refine w_ite (fun c => ?_) fun c => ?_
  · have c : ((q.len : Nat) : Int) > 0 := of_decide_eq_true c
    have hne : st ≠ [] := fun e => by
      have e2 : (rts st).length = 0 := (congrArg (fun z => (rts z).length) e).trans rfl
      omega
    obtain ⟨f, z, hfz⟩ : ∃ f z, st = f ++ [z] := ⟨st.dropLast, st.getLast hne, (List.dropLast_concat_getLast hne).symm⟩
    obtain ⟨L, j, m, Rr, hz⟩ := hn z (by rw [hfz]; simp)
    have hRz : Rep l (.n L j m Rr) := by rw [← hz]; exact hrep z (by rw [hfz]; simp)
    obtain ⟨hin, hnt⟩ := rep_in hRz
    have er : rtt l (j : Int) = Rr.rt := by rw [rtt, hnt]
    have ek : keyL l (j : Int) = m := by rw [keyL, hnt]
    have hfl : st.length = f.length + 1 := by rw [hfz]; simp
    have hrs : rts st = rts f ++ [(j : Int)] := by rw [hfz, hz]; simp [rts, Tr.rt]
    have hrf : (rts f).length = f.length := by simp [rts]
    have e : IntKind.i64.wrap (((q.len : Nat) : Int) - 1) = (f.length : Int) := by rw [wi (by omega) (by omega)]; omega
    rw [e]
    refine w_idx (s := q) h (by omega) (by omega) (w_ldE h q ((f.length : Nat) : Int).toNat (y := (j : Int)) (by rw [hrs, Int.toNat_natCast, ← hrf]; simp) rfl ?_)
    have hcap := own_cap (s := q) h
    refine w_slc (s := q) h 0 f.length q.cap rfl rfl rfl rfl (by omega) (by omega) (by omega) (by omega) fun s11 _ _ h => ?_
    have h := h.arrEq (s := s11) (K := KI) (ys := rts f) (by rw [hrs, ← hrf, List.take_left]; rfl)
    have hks : ks.drop i = m :: (Rr.ino ++ remT f) := by
      rw [hd, hfz, rem_app, hz]; simp [remT, oneT]
    have hki : ks[i]? = some m := by
      have := congrArg (fun z => z[0]?) hks
      simpa using this
    have hil : i < ks.length := (List.getElem?_eq_some_iff.1 hki).1
    refine w_ld h rfl (w_deref (w_ld h rfl (w_ix (s := s) h hin (rdK h hin ?_))))
    rw [ek]
    have ht : TriV Try.prog y [.agg (Ks.mk [.int .u64, .int .u64] m)] [.lf .bool] (I i) (fun c => cond c (I (i + 1)) D) := hy i m hki
    refine w_callv ht h fun c w h => ?_
    cases c with
    | false =>
      refine w_ite (fun c => ?_) fun c => by cases c
      have h : Own _ _ _ _ (D ^ _) := h
      have h := (h.mkTree t l T us fr a s s1 s2 hg)
      have h : Own _ _ _ _ (D ^ blk n [.ptr (some ⟨t, 0⟩)] ^ tree rm t ks) := h.fin
      exact (h.eitherR (I ks.length)).fin
    | true =>
      refine w_ite (fun c => by cases c) fun c => ?_
      have h : Own _ _ _ _ (I (i + 1) ^ _) := h
      refine w_drw h fun w h => w_ld h rfl (w_ld h rfl (w_deref (w_ld h rfl (w_ix (s := s) h hin (rdR h hin ?_)))))
      rw [er]
      have hsz : szT Rr ≤ 4096 := by
        have h1 := congrArg List.length hks
        rw [List.length_drop] at h1
        have h2 := sz_ino Rr
        simp at h1; omega
      refine w_call (least_tri t (some ⟨a, 0⟩) s ks.length rm l Rr hRz.2.2 hsz (T.rt + 1)) h fun q2 w h => ?_
      have hl2 : (leastL Rr).length ≤ 4096 := by
        have h1 := len_rem (spine Rr) (spine_n Rr)
        rw [rem_spine] at h1
        have h2 : (leastL Rr).length = (spine Rr).length := by rw [← rts_spine]; simp [rts]
        have h3 := sz_ino Rr
        omega
      refine w_app (s := s11) (x := q2) h rfl (by omega) fun s25 w _ h => ?_
      have h := h.arrEq (s := s25) (K := KI) (ys := rts (f ++ spine Rr)) (by rw [← rts_spine]; simp [rts])
      refine hK s25 (i + 1, f ++ spine Rr) w ⟨?_, fun z hz => ?_, fun z hz => ?_, by show i + 1 ≤ _; omega⟩ h.fin (by show _ - (i + 1) < _ - i; omega)
      · show ks.drop (i + 1) = remT (f ++ spine Rr)
        rw [rem_app, rem_spine]
        have := congrArg (fun z => z.drop 1) hks
        simpa using this
      · rcases List.mem_append.1 hz with hz | hz
        · exact hn z (by rw [hfz]; simp [hz])
        · exact spine_n Rr z hz
      · rcases List.mem_append.1 hz with hz | hz
        · exact hrep z (by rw [hfz]; simp [hz])
        · exact spine_rep hRz.2.2 z hz
  · have c : ¬ ((q.len : Nat) : Int) > 0 := of_decide_eq_false c
    have hst0 : st = [] := List.eq_nil_of_length_eq_zero (by omega)
    rw [hst0] at hd
    have hi : i = ks.length := by
      have := congrArg List.length hd
      rw [List.length_drop] at this
      simp [remT] at this; omega
    rw [hi] at h
    have h := (h.mkTree t l T us fr a s s1 s2 hg)
    have h : Own _ _ _ _ (I ks.length ^ blk n [.ptr (some ⟨t, 0⟩)] ^ tree rm t ks) := h.fin
    exact (h.eitherL D).fin
def minF (ks : List Key) : Key × Bool := match ks with
  | [] => ((0, 0), false)
  | k :: _ => (k, true)
theorem min_tri (t : Nat) (rm : Int) (ks : List Key) : Tri Try.prog N_rbtree_Tree_Min [.lf (.ptr (some ⟨t, 0⟩))] [.agg [.int .u64, .int .u64], .lf .bool] (tree rm t ks) (fun r => pur (r = minF ks) (tree rm t ks)) :=
  tri_n (W := fun n R => W_rbtree_Tree_Min n (some ⟨t, 0⟩) R) (call_rbtree_Tree_Min _) fun w S R h => by
    unfold W_rbtree_Tree_Min
    refine w_new h fun n1 w h => ?_
    refine w_new h fun n2 w h => ?_
    refine w_join h (fun _ => blk n1 [.int .u64 (0:Int), .int .u64 (0:Int)] ^ blk n2 [.bool false] ^ tree rm t ks) (fun _ => ks = []) (fun y w hv h => ?_) ?_
    · refine w_setAll h (by rfl) fun w h => w_setAll h (by rfl) fun w h => ?_
      refine w_ldAll (b := n1) (x := ((0, 0) : Int × Int)) h rfl (w_ld h rfl ?_)
      refine w_leave h fun w h => ?_
      exact Own.retP (by rw [hv]; rfl) h.fin
    · refine w_call (all_tri _) (h.le (star_emp _)) fun f w h => ?_
      obtain ⟨n, h⟩ := h.exP
      obtain ⟨hf, h⟩ := h.purP
      rw [hf]
      have h := (h.take (blk n1 [.int .u64 (0:Int), .int .u64 (0:Int)] ^ blk n2 [.bool false])).toPur (p := (0 : Nat) = 0) rfl
      refine w_range (all_iter n t rm ks) (fun i => pur (i = 0) (blk n1 [.int .u64 (0:Int), .int .u64 (0:Int)] ^ blk n2 [.bool false])) (fun j => pur (j = 1) (blk n1 (Ks.mk KR (minF ks).1) ^ blk n2 [.bool (minF ks).2])) h ?_ ?_ ?_
      · rintro i (x : Key) hx w S R mid next jump rdy bsy hmid hnext hjump h
        refine w_new h fun n10 w h => w_setAll h (by rfl) fun w h => ?_
        refine hmid h fun w h => ?_
        have h := h.take (pur (i = 0) (blk n1 [.int .u64 (0:Int), .int .u64 (0:Int)] ^ blk n2 [.bool false]))
        obtain ⟨hi, h⟩ := h.purP
        have hv : minF ks = (x, true) := by
          rw [hi] at hx
          cases ks with
          | nil => cases hx
          | cons y l => cases hx; rfl
        rw [hv] at hjump
        refine w_ldAll (b := n10) (x := x) h rfl ?_
        refine w_setAll h (by rfl) fun w h => w_setAll h (by rfl) fun w h => ?_
        have h := (h.take (blk n1 (Ks.mk KR x) ^ blk n2 [.bool true])).toPur (p := 1 = 1) rfl
        exact hjump 1 (by decide) h
      · intro w h
        have h := h.take (pur (ks.length = 0) (blk n1 [.int .u64 (0:Int), .int .u64 (0:Int)] ^ blk n2 [.bool false]))
        obtain ⟨hno, h⟩ := h.purP
        exact ⟨List.eq_nil_of_length_eq_zero hno, h.fin⟩
      · intro j w hj h
        have h := h.take (pur (j = 1) (blk n1 (Ks.mk KR (minF ks).1) ^ blk n2 [.bool (minF ks).2]))
        obtain ⟨hj1, h⟩ := h.purP
        rw [hj1]
        refine w_ldAll (b := n1) (x := (minF ks).1) h rfl (w_ld h rfl ?_)
        refine w_leave h fun w h => ?_
        exact Own.retP rfl h.fin
end TreeF

end Go.X
