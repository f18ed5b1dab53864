/- Contracts and plain facts: ListsLaws. -/
import Derived.Test.YtgdhpkfielibbaaBPlain
import Derived.Test.YtgdhpkfielibbaaBInts
import Derived.Test.YtgdhpkfielibbaaBLists
import Derived.Test.YtgdhpkfielibbaaXw
import Derived.Test.YtgdhpkfielibbaaK
import Derived.Test.YtgdhpkfielibbaaF0
set_option linter.unusedVariables false
set_option linter.unusedSimpArgs false
namespace Go.X
open Go.Proofs
namespace ListsLaws
open Lists
def toldI (n1 n2 n3 : Nat) (most : Int) (xs : List (Int × Bool)) (i : Nat) : SP := exq (fun _ : Sl × Sl => i < max 1 most.toNat) (fun s => blk n2 [.sl s.1] ^ blk n3 [.sl s.2] ^ blk n1 [.int .i64 most] ^ arr s.1 KI ((xs.take i).map Prod.fst) ^ arr s.2 KB ((xs.take i).map Prod.snd))
def toldD (n2 n3 : Nat) (ys : List (Int × Bool)) : SP := ex fun s : Sl × Sl => blk n2 [.sl s.1] ^ blk n3 [.sl s.2] ^ arr s.1 KI (ys.map Prod.fst) ^ arr s.2 KB (ys.map Prod.snd)
theorem toldc_tri (n1 n2 n3 : Nat) (most : Int) (xs : List (Int × Bool)) (hl : xs.length ≤ 4294967295) (i : Nat) (x : Int × Bool) (hx : xs[i]? = some x) :
    Tri Try.prog N_canterlaw19_told_c1 [.lf (.int .i64 x.1), .lf (.bool x.2), .lf (.ptr (some ⟨n2, 0⟩)), .lf (.ptr (some ⟨n3, 0⟩)), .lf (.ptr (some ⟨n1, 0⟩))] [.lf .bool] (toldI n1 n2 n3 most xs i)
      (fun c => cond c (toldI n1 n2 n3 most xs (i + 1)) (toldD n2 n3 (takeN xs most))) :=
  tri_0 (call_canterlaw19_told_c1 _ _ ⟨n2, 0⟩ ⟨n3, 0⟩ ⟨n1, 0⟩) fun w0 S R h => by
    unfold W_canterlaw19_told_c1
    obtain ⟨⟨s1, s2⟩, hi, h⟩ := h.outq1
    dsimp only at hi h
    have hil : i < xs.length := (List.getElem?_eq_some_iff.1 hx).1
    have ht : xs.take (i + 1) = xs.take i ++ [x] := by rw [List.take_add_one, hx]; rfl
    have e1 : (xs.take i).map Prod.fst ++ [x.1] = (xs.take (i + 1)).map Prod.fst := by rw [ht]; simp
    have e2 : (xs.take i).map Prod.snd ++ [x.2] = (xs.take (i + 1)).map Prod.snd := by rw [ht]; simp
    have l1 : ((xs.take i).map Prod.fst).length + [x.1].length ≤ 4294967296 := by simp; omega
    have l2 : ((xs.take i).map Prod.snd).length + [x.2].length ≤ 4294967296 := by simp; omega
    have fin : ∀ {w : World} (s3 s4 : Sl), s3.len = i + 1 → Own w0 S R w (blk n2 [.sl s3] ^ blk n3 [.sl s4] ^ blk n1 [.int .i64 most] ^ arr s3 KI ((xs.take i).map Prod.fst ++ [x.1]) ^ arr s4 KB ((xs.take i).map Prod.snd ++ [x.2])) →
        Own w0 S R w (cond (decide ((s3.len : Int) < most)) (toldI n1 n2 n3 most xs (i + 1)) (toldD n2 n3 (takeN xs most))) := by
      intro w s3 s4 h3 h
      rw [e1, e2] at h
      rw [h3]
      by_cases hc : ((i + 1 : Nat) : Int) < most
      · rw [decide_eq_true hc]
        exact (h.inq (φ := fun _ : Sl × Sl => i + 1 < max 1 most.toNat) (f := fun s => blk n2 [.sl s.1] ^ blk n3 [.sl s.2] ^ blk n1 [.int .i64 most] ^ arr s.1 KI ((xs.take (i + 1)).map Prod.fst) ^ arr s.2 KB ((xs.take (i + 1)).map Prod.snd)) (s3, s4) (by omega)).keep
      · rw [decide_eq_false hc]
        have e : takeN xs most = xs.take (i + 1) := by rw [takeN]; congr 1; omega
        rw [e]
        exact h.ret (f := fun s : Sl × Sl => blk n2 [.sl s.1] ^ blk n3 [.sl s.2] ^ arr s.1 KI ((xs.take (i + 1)).map Prod.fst) ^ arr s.2 KB ((xs.take (i + 1)).map Prod.snd)) (s3, s4)
    have hlen : ((xs.take i).map Prod.fst).length + [x.1].length = i + 1 := by simp; omega
    refine w_drw h fun w h => ?_
    refine w_ld h rfl (w_ld h rfl ?_)
    refine ⟨?_, ?_⟩
    · refine w_new h fun n w h => ?_
      refine w_chk h rfl (w_chk h rfl ?_)
      have h := h.blkArr n KI [x.1] rfl (by simp)
      refine ⟨?_, ?_⟩
      · refine w_app (s := s1) (x := ⟨some ⟨n, 0⟩, 1, 1⟩) h rfl l1 fun s3 w h3 h => ?_
        refine w_chk h rfl ?_
        refine w_new h fun m w h => ?_
        refine w_chk h rfl (w_chk h rfl ?_)
        have h := h.blkArr m KB [x.2] rfl (by simp)
        refine w_app (s := s2) (x := ⟨some ⟨m, 0⟩, 1, 1⟩) h rfl l2 fun s4 w _ h => ?_
        refine w_set h rfl fun w h => ?_
        dsimp only [upd, over] at h
        refine w_set h rfl fun w h => ?_
        dsimp only [upd, over] at h
        refine w_ld h rfl (w_ld h rfl ?_)
        exact fin s3 s4 (h3.trans hlen) h.fin
      · refine w_new h fun m w h => ?_
        refine w_chk h rfl (w_chk h rfl ?_)
        have h := h.blkArr m KB [x.2] rfl (by simp)
        refine w_app (s := s1) (x := ⟨some ⟨n, 0⟩, 1, 1⟩) h rfl l1 fun s3 w h3 h => ?_
        refine w_chk h rfl ?_
        refine w_app (s := s2) (x := ⟨some ⟨m, 0⟩, 1, 1⟩) h rfl l2 fun s4 w _ h => ?_
        refine w_set h rfl fun w h => ?_
        dsimp only [upd, over] at h
        refine w_set h rfl fun w h => ?_
        dsimp only [upd, over] at h
        refine w_ld h rfl (w_ld h rfl ?_)
        exact fin s3 s4 (h3.trans hlen) h.fin
    · refine w_new h fun m w h => ?_
      refine w_chk h rfl (w_chk h rfl ?_)
      have h := h.blkArr m KB [x.2] rfl (by simp)
      refine w_new h fun n w h => ?_
      refine w_chk h rfl (w_chk h rfl ?_)
      have h := h.blkArr n KI [x.1] rfl (by simp)
      refine w_app (s := s1) (x := ⟨some ⟨n, 0⟩, 1, 1⟩) h rfl l1 fun s3 w h3 h => ?_
      refine w_chk h rfl ?_
      refine w_app (s := s2) (x := ⟨some ⟨m, 0⟩, 1, 1⟩) h rfl l2 fun s4 w _ h => ?_
      refine w_set h rfl fun w h => ?_
      dsimp only [upd, over] at h
      refine w_set h rfl fun w h => ?_
      dsimp only [upd, over] at h
      refine w_ld h rfl (w_ld h rfl ?_)
      exact fin s3 s4 (h3.trans hlen) h.fin
theorem told_tri (p : Option Pt) (C : SP) (xs : List (Int × Bool)) (most : Int) (it : ∀ n, Iter Try.prog (mkAll n) (blk n [.ptr p] ^ C) [.lf (.int .i64), .lf .bool] xs) (hl : xs.length ≤ 4294967295) :
    Tri Try.prog N_canterlaw19_told [.lf (.ptr p), .lf (.int .i64 most)] [.lf .sl, .lf .sl] C (fun r => arr r.1 KI ((takeN xs most).map Prod.fst) ^ arr r.2 KB ((takeN xs most).map Prod.snd) ^ C) :=
  tri_0 (call_canterlaw19_told _ _) fun w0 S R h => by
    unfold W_canterlaw19_told
    refine w_new h fun n1 w h => ?_
    refine w_new h fun n2 w h => ?_
    refine w_new h fun n3 w h => ?_
    refine w_call (all_tri p) (h.le (star_emp _)) fun f w h => ?_
    obtain ⟨n, h⟩ := h.exP
    obtain ⟨hf, h⟩ := h.purP
    rw [hf]
    refine w_ite (fun c => by cases c) fun _ => ?_
    have hy : ∀ i x, xs[i]? = some x → TriV Try.prog (.mk (.func N_canterlaw19_told_c1) [] [V1.enc (.lf (.ptr (some ⟨n2, 0⟩))), V1.enc (.lf (.ptr (some ⟨n3, 0⟩))), V1.enc (.lf (.ptr (some ⟨n1, 0⟩)))]) (Rs.mk [.lf (.int .i64), .lf .bool] x) [.lf .bool]
        (toldI n1 n2 n3 most xs i) (fun c => cond c (toldI n1 n2 n3 most xs (i + 1)) (toldD n2 n3 (takeN xs most))) := fun i x hx =>
      (Tri.g (f := N_canterlaw19_told_c1) (args := [.lf (.int .i64 x.1), .lf (.bool x.2)]) (caps := [.lf (.ptr (some ⟨n2, 0⟩)), .lf (.ptr (some ⟨n3, 0⟩)), .lf (.ptr (some ⟨n1, 0⟩))]) (toldc_tri n1 n2 n3 most xs hl i x hx)).v
    have hit := (it n _ _ _ hy).v
    have h := ((h.nil KI).nil KB)
    have h : Own _ _ _ _ (arr ⟨none, 0, 0⟩ KI [] ^ arr ⟨none, 0, 0⟩ KB [] ^ blk n [.ptr p] ^ blk n3 [.sl ⟨none, 0, 0⟩] ^ blk n2 [.sl ⟨none, 0, 0⟩] ^ blk n1 [.int .i64 most] ^ C) := h.fin
    have h : Own _ _ _ _ (arr ⟨none, 0, 0⟩ KI ((xs.take 0).map Prod.fst) ^ arr ⟨none, 0, 0⟩ KB ((xs.take 0).map Prod.snd) ^ blk n [.ptr p] ^ blk n3 [.sl ⟨none, 0, 0⟩] ^ blk n2 [.sl ⟨none, 0, 0⟩] ^ blk n1 [.int .i64 most] ^ C) := h
    have h := h.inq (φ := fun _ : Sl × Sl => 0 < max 1 most.toNat) (f := fun s => blk n2 [.sl s.1] ^ blk n3 [.sl s.2] ^ blk n1 [.int .i64 most] ^ arr s.1 KI ((xs.take 0).map Prod.fst) ^ arr s.2 KB ((xs.take 0).map Prod.snd)) (⟨none, 0, 0⟩, ⟨none, 0, 0⟩) (by omega)
    have h : Own _ _ _ _ (toldI n1 n2 n3 most xs 0 ^ blk n [.ptr p] ^ C) := h
    refine w_callv hit h fun r w h => ?_
    have h := h.take (either (toldI n1 n2 n3 most xs xs.length) (toldD n2 n3 (takeN xs most)))
    have h : Own w0 S R w (toldD n2 n3 (takeN xs most) ^ (blk n [.ptr p] ^ C) ^ emp) := by
      obtain ⟨b, h⟩ := h.exP
      cases b with
      | true =>
        obtain ⟨s, hlt, h⟩ := Own.outq (φ := fun _ : Sl × Sl => xs.length < max 1 most.toNat) (f := fun s => blk n2 [.sl s.1] ^ blk n3 [.sl s.2] ^ blk n1 [.int .i64 most] ^ arr s.1 KI ((xs.take xs.length).map Prod.fst) ^ arr s.2 KB ((xs.take xs.length).map Prod.snd)) h
        have e : takeN xs most = xs.take xs.length := by rw [takeN, List.take_of_length_le (by omega), List.take_length]
        rw [e]
        have h : Own _ _ _ _ ((blk n2 [.sl s.1] ^ blk n3 [.sl s.2] ^ arr s.1 KI ((xs.take xs.length).map Prod.fst) ^ arr s.2 KB ((xs.take xs.length).map Prod.snd)) ^ (blk n [.ptr p] ^ C) ^ emp) := h.fin
        exact h.toEx (f := fun s : Sl × Sl => blk n2 [.sl s.1] ^ blk n3 [.sl s.2] ^ arr s.1 KI ((xs.take xs.length).map Prod.fst) ^ arr s.2 KB ((xs.take xs.length).map Prod.snd)) s
      | false => exact h
    obtain ⟨s, h⟩ := h.exP
    refine w_drw h fun w h => ?_
    refine w_ld h rfl (w_ld h rfl (w_chk h rfl ?_))
    exact h.fin
theorem all9 {v : LV} (h : okL v) (m : Int) (hm : 9 ≤ m) : takeN (allF v) m = allF v := by
  have := h.few
  rw [takeN, List.take_of_length_le]; rw [allF_len]; omega
theorem fst_all (v : LV) : (allF v).map Prod.fst = v.1 ++ v.2 := by simp [allF, Function.comp_def]
theorem tell_tri (b : Nat) (v : LV) (ho : okL v) (most : Int) : Tri Try.prog N_canterlaw19_told [.lf (.ptr (some ⟨b, 0⟩)), .lf (.int .i64 most)] [.lf .sl, .lf .sl] (lst b v) (fun r => arr r.1 KI ((takeN (allF v) most).map Prod.fst) ^ arr r.2 KB ((takeN (allF v) most).map Prod.snd) ^ lst b v) :=
  told_tri _ _ _ _ (fun n => all_iter n b v (by have := ho.few; omega)) (by rw [allF_len]; have := ho.few; omega)
theorem ok0 : okL ([], []) := ⟨List.nodup_nil, fun x hx => by cases hx⟩
theorem awake_tri : Tri Try.prog N_canterlaw19_awake [] [.lf .bool] emp (fun r => pur (r = true) emp) :=
  tri_0 call_canterlaw19_awake fun w S R h => by
    unfold W_canterlaw19_awake
    refine w_call new_tri h fun r w h => ?_
    obtain ⟨b, h⟩ := h.exP
    obtain ⟨hr, h⟩ := h.purP
    rw [hr]
    have o1 : okL (([] : List Int), [1]) := ok0.push 1 false
    have o2 : okL ([2], [1]) := o1.push 2 true
    refine w_join h (fun _ => lst b ([2], [1])) (fun y => y = false) (fun y w hy h => ?_) ?_
    · refine w_ite (fun c => by rw [hy] at c; cases c) fun _ => ?_
      refine w_call (head_tri b ([2], [1]) (by decide)) (h.le (star_emp _)) fun r w h => ?_
      obtain ⟨hr, h⟩ := h.purP
      refine w_call (tell_tri b ([2], [1]) o2 9) h fun r2 w h => ?_
      rw [hr]
      refine w_ite (fun _ => ?_) fun c => by cases c
      refine w_call (place_tri b ([2], [1]) 1 (by decide)) h fun r3 w h => ?_
      obtain ⟨hr3, h⟩ := h.purP
      rw [hr3]
      refine w_ite (fun _ => ?_) fun c => by cases c
      refine w_new h fun n w h => ?_
      have h := h.blkArr n KI [2, 1] rfl (by simp)
      have h := h.arrEq (s := r2.1) (K := KI) (ys := [2, 1]) (by rfl)
      refine w_callL (A := emp) (Q := rarr r2.1 KI [2, 1] ^ rarr ⟨some ⟨n, 0⟩, 2, 2⟩ KI [2, 1]) (Ints.int_plain_tri r2.1 ⟨some ⟨n, 0⟩, 2, 2⟩ [2, 1] [2, 1] (by decide)) h fun r w h => ?_
      obtain ⟨hr, h⟩ := h.purP
      exact Own.retP (hr.2 rfl) h.emp'
    · refine w_ite (fun c => by cases c) fun _ => ?_
      refine w_call (push_tri b ([], []) 1 false (by decide)) h fun r w h => ?_
      obtain ⟨hr, h⟩ := h.purP
      have h : Own _ _ _ _ (lst b ([], [1]) ^ _) := h
      refine w_ite (fun c => by rw [hr] at c; cases c) fun _ => ?_
      refine w_call (push_tri b ([], [1]) 2 true (by decide)) h fun r w h => ?_
      obtain ⟨hr, h⟩ := h.purP
      have h : Own _ _ _ _ (lst b ([2], [1]) ^ _) := h
      exact ⟨by rw [hr]; rfl, h.fin⟩
theorem play_tri (d : Sl) (ops : List (Int × Int × Bool)) : Tri Try.prog N_canterlaw19_ListsPlay [.lf (.sl d)] [.lf .bool] (rarr d K_i2b ops) (fun r => pur (r = true) emp) :=
  tri_0 (call_canterlaw19_ListsPlay _) fun w0 S R h => by
    unfold W_canterlaw19_ListsPlay
    have hd := (h.rd (s := d)).2
    refine w_call new_tri (h.le (star_emp _ |>.trans (star_comm _ _))) fun r w h => ?_
    obtain ⟨b, h⟩ := h.exP
    obtain ⟨hr, h⟩ := h.purP
    rw [hr]
    refine w_new h fun n2 w h => ?_
    have h := ((h.nil KI).nil KI).mkLst n2 ⟨none, 0, 0⟩ ⟨none, 0, 0⟩ ([], [])
    refine w_call awake_tri (h.le (star_emp _ |>.trans (star_comm _ _))) fun r w h => ?_
    obtain ⟨hr, h⟩ := h.purP
    rw [hr]
    refine w_ite (fun c => by cases c) fun _ => ?_
    have h : Own w0 S R w (lst b ([], []) ^ lst n2 ([], []) ^ rarr d K_i2b ops) := h.fin
    refine w_loop (fun (_ : Int) => exq okL (fun v => lst b v ^ lst n2 v ^ rarr d K_i2b ops)) (fun (i : Int) => 0 ≤ i ∧ i ≤ 120) (fun (i : Int) => (120 - i).toNat) (h.inq ([], []) ok0).keep ⟨by simp, by simp⟩ ?_
    rintro (i : Int) w ⟨h0, h1⟩ h
    obtain ⟨v, ho, h⟩ := h.outq1
    have hfew := ho.few
    refine w_ite (fun c => ?_) fun c => Own.retP rfl h.emp'
    have hc : i < ops.length ∧ i < 120 := by simp at c; omega
    have hi : i.toNat < ops.length := by omega
    have hw : IntKind.i64.wrap (i + 1) = i + 1 := wi (by omega) (by omega)
    obtain ⟨⟨k, s, fr⟩, hx⟩ : ∃ x, ops[i.toNat]? = some x := ⟨_, at_some hi⟩
    refine w_idx h h0 hi ?_
    refine w_ldE h d i.toNat hx rfl ?_
    refine w_new h fun n8 w h => ?_
    refine w_setAll h (by rfl) fun w h => ?_
    refine w_join h (fun _ => exq okL (fun v => lst b v ^ lst n2 v ^ blk n8 [.int .i64 k, .int .i64 s, .bool fr] ^ rarr d K_i2b ops)) (fun (y : Bool) => y = true) (fun (y : Bool) w hy h => ?_) ?_
    · obtain ⟨v, ho, h⟩ := h.outq1
      have hfew := ho.few
      refine w_call (head_tri b v (by omega)) h fun r26 w h => ?_
      obtain ⟨h26, h⟩ := h.purP
      refine w_call (r_head_tri n2 v) h fun r27 w h => ?_
      obtain ⟨h27, h⟩ := h.purP
      refine w_call (tell_tri b v ho 99) h fun r28 w h => ?_
      rw [all9 ho 99 (by decide), fst_all] at h
      have h : Own w0 S R w (lst b v ^ lst n2 v ^ blk n8 [.int .i64 k, .int .i64 s, .bool fr] ^ arr r28.1 KI (v.1 ++ v.2) ^ arr r28.2 KB ((allF v).map Prod.snd) ^ rarr d K_i2b ops) := h.fin
      refine w_join h (fun _ => lst b v ^ lst n2 v ^ arr r28.2 KB ((allF v).map Prod.snd) ^ rarr d K_i2b ops) (fun (y : Bool) => y = false) (fun (y : Bool) w hy h => ?_) ?_
      · refine w_ite (fun c => by rw [hy] at c; cases c) fun _ => ?_
        refine w_loop (fun (_ : Int) => lst b v ^ lst n2 v ^ arr r28.2 KB ((allF v).map Prod.snd) ^ rarr d K_i2b ops) (fun (j : Int) => 0 ≤ j ∧ j.toNat ≤ (allF v).length) (fun (j : Int) => (allF v).length - j.toNat) h ⟨by simp, by simp⟩ ?_
        rintro (j : Int) w ⟨j0, j1⟩ h
        have h' := h.take (arr r28.2 KB ((allF v).map Prod.snd))
        have hl := (h'.rd (s := r28.2)).2
        rw [List.length_map] at hl
        have hal := allF_len v
        refine w_ite (fun c => ?_) fun c => ?_
        · have hj : j.toNat < (allF v).length := by simp at c; omega
          obtain ⟨x, hx⟩ : ∃ x, (allF v)[j.toNat]? = some x := ⟨_, at_some hj⟩
          have hx2 : ((allF v).map Prod.snd)[j.toNat]? = some x.2 := by rw [List.getElem?_map, hx]; rfl
          refine w_drw h' fun w h' => ?_
          refine w_idx h' j0 (by rw [List.length_map]; exact hj) ?_
          refine w_deref ?_
          refine w_ldE h' r28.2 j.toNat hx2 rfl ?_
          obtain ⟨s1, s2, h'⟩ := h'.lst n2
          have hs1 := ((h'.take (arr s1 KI v.1)).rd (s := s1)).2
          refine w_ld h' rfl ?_
          have h := h'.mkLst n2 s1 s2 v
          refine w_ite (fun c => ?_) fun c => ?_
          · exfalso
            rcases allF_fst hx with ⟨a1, _, a3⟩ | ⟨a1, _, a3⟩
            · rw [a3, decide_eq_true (by omega : j < (s1.len : Int))] at c; cases c
            · rw [a3, decide_eq_false (by omega : ¬ j < (s1.len : Int))] at c; cases c
          · rw [wi (n := j + 1) (by omega) (by omega)]
            exact ⟨⟨⟨by show 0 ≤ j + 1; omega, by show (j + 1).toNat ≤ _; omega⟩, h.fin⟩, by show _ - (j + 1).toNat < _; omega⟩
        · rw [hw]
          have h : Own w0 S R w (lst b v ^ lst n2 v ^ rarr d K_i2b ops) := h.fin
          exact ⟨⟨⟨by show 0 ≤ i + 1; omega, by show i + 1 ≤ 120; omega⟩, (h.inq v ho).keep⟩, by show (120 - (i + 1)).toNat < _; omega⟩
      · refine w_drw h fun w h => ?_
        refine w_ite (fun c => by rw [hy] at c; cases c) fun _ => ?_
        rw [h26, h27]
        refine w_ite (fun c => by simp at c) fun _ => ?_
        refine w_ite (fun c => by simp at c) fun _ => ?_
        refine w_ite (fun c => by simp at c) fun _ => ?_
        refine w_ld h rfl (w_ld h rfl ?_)
        refine w_call (place_tri b v s (by omega)) h fun r33 w h => ?_
        obtain ⟨h33, h⟩ := h.purP
        refine w_chk h rfl ?_
        refine w_call (r_place_tri n2 v s (by omega)) h fun r34 w h => ?_
        obtain ⟨h34, h⟩ := h.purP
        refine w_ite (fun c => by rw [h33, h34] at c; simp at c) fun _ => ?_
        obtain ⟨s1, s2, h⟩ := h.lst n2
        refine w_deref (w_deref (w_ld h rfl (w_ld h rfl ?_)))
        have h := h.nil KI
        refine w_app (s := ⟨none, 0, 0⟩) (x := s1) h rfl (by simp; omega) fun s39 w _ h => ?_
        have h := h.arrEq (s := s39) (K := KI) (List.nil_append _)
        refine w_chk h rfl ?_
        refine w_app (s := s39) (x := s2) h rfl (by omega) fun s40 w _ h => ?_
        have h := h.mkLst n2 s1 s2 v
        refine w_callL (A := emp) (Q := rarr r28.1 KI (v.1 ++ v.2) ^ rarr s40 KI (v.1 ++ v.2)) (Ints.int_plain_tri r28.1 s40 (v.1 ++ v.2) (v.1 ++ v.2) (by rw [List.length_append]; omega)) h fun r w h => ?_
        obtain ⟨hr, h⟩ := h.purP
        exact ⟨by rw [hr.2 rfl]; rfl, h.fin⟩
    · have h : Own w0 S R w (blk n8 [.int .i64 k, .int .i64 s, .bool fr] ^ lst b v ^ lst n2 v ^ rarr d K_i2b ops) := h
      have h : Own w0 S R w (lst b v ^ lst n2 v ^ blk n8 [.int .i64 k, .int .i64 s, .bool fr] ^ rarr d K_i2b ops) := h.fin
      refine w_ld h rfl ?_
      refine w_ite (fun c => ?_) fun c => ?_
      · refine w_call (drop_tri b v (by omega)) h fun r w h => ?_
        obtain ⟨h1, h⟩ := h.purP
        refine w_call (r_drop_tri n2 v (by omega)) h fun r w h => ?_
        obtain ⟨h2, h⟩ := h.purP
        exact ⟨by rw [h1, h2]; simp, (h.inq (f := fun v => lst b v ^ lst n2 v ^ blk n8 [.int .i64 k, .int .i64 s, .bool fr] ^ rarr d K_i2b ops) (dropF v).2 ho.drop).keep⟩
      · refine w_ite (fun c => ?_) fun c => ?_
        · refine w_call (back_tri b v ho) h fun r w h => ?_
          obtain ⟨h1, h⟩ := h.purP
          refine w_call (r_back_tri n2 v (by omega)) h fun r w h => ?_
          obtain ⟨h2, h⟩ := h.purP
          exact ⟨by rw [h1, h2]; simp, (h.inq (f := fun v => lst b v ^ lst n2 v ^ blk n8 [.int .i64 k, .int .i64 s, .bool fr] ^ rarr d K_i2b ops) (backF v).2 ho.back).keep⟩
        · refine w_ite (fun c => ?_) fun c => ?_
          · refine w_drw h fun w h => ?_
            refine w_ld h rfl (w_ld h rfl ?_)
            refine w_call (remove_tri b v s (by omega)) h fun r w h => ?_
            obtain ⟨h1, h⟩ := h.purP
            refine w_chk h rfl ?_
            refine w_call (r_remove_tri n2 v s (by omega)) h fun r w h => ?_
            obtain ⟨h2, h⟩ := h.purP
            exact ⟨by rw [h1, h2]; simp, (h.inq (f := fun v => lst b v ^ lst n2 v ^ blk n8 [.int .i64 k, .int .i64 s, .bool fr] ^ rarr d K_i2b ops) (removeF v s).2 (ho.out s)).keep⟩
          · refine w_drw h fun w h => ?_
            refine w_ld h rfl (w_ld h rfl (w_ld h rfl (w_ld h rfl ?_)))
            refine w_call (push_tri b v s fr (by omega)) h fun r w h => ?_
            obtain ⟨h1, h⟩ := h.purP
            refine w_chk h rfl (w_chk h rfl ?_)
            refine w_call (r_push_tri n2 v s fr (by omega)) h fun r w h => ?_
            obtain ⟨h2, h⟩ := h.purP
            exact ⟨by rw [h1, h2]; simp, (h.inq (f := fun v => lst b v ^ lst n2 v ^ blk n8 [.int .i64 k, .int .i64 s, .bool fr] ^ rarr d K_i2b ops) (pushF v s fr).2 (ho.push s fr)).keep⟩
instance (v : LV) : Decidable (okL v) := by unfold okL; infer_instance
end ListsLaws

end Go.X
