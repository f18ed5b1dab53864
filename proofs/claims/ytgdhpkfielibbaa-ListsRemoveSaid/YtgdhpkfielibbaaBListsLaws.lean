/- Contracts and plain facts: ListsLaws. -/
import Derived.Test.YtgdhpkfielibbaaBPlain
import Derived.Test.YtgdhpkfielibbaaBInts
import Derived.Test.YtgdhpkfielibbaaBLists
import Derived.Test.YtgdhpkfielibbaaXw
import Derived.Test.YtgdhpkfielibbaaK
import Derived.Test.YtgdhpkfielibbaaF0
set_option linter.unusedVariables false
set_option linter.unusedSimpArgs false
namespace Go.X
open Go.Proofs
namespace ListsLaws
open Lists
def toldI (n1 n2 n3 : Nat) (most : Int) (xs : List (Int × Bool)) (i : Nat) : SP := exq (fun _ : Sl × Sl => i < max 1 most.toNat) (fun s => blk n2 [.sl s.1] ^ blk n3 [.sl s.2] ^ blk n1 [.int .i64 most] ^ arr s.1 KI ((xs.take i).map Prod.fst) ^ arr s.2 KB ((xs.take i).map Prod.snd))
def toldD (n2 n3 : Nat) (ys : List (Int × Bool)) : SP := ex fun s : Sl × Sl => blk n2 [.sl s.1] ^ blk n3 [.sl s.2] ^ arr s.1 KI (ys.map Prod.fst) ^ arr s.2 KB (ys.map Prod.snd)
theorem toldc_tri (n1 n2 n3 : Nat) (most : Int) (xs : List (Int × Bool)) (hl : xs.length ≤ 4294967295) (i : Nat) (x : Int × Bool) (hx : xs[i]? = some x) :
    Tri Try.prog N_canterlaw19_told_c1 [.lf (.int .i64 x.1), .lf (.bool x.2), .lf (.ptr (some ⟨n2, 0⟩)), .lf (.ptr (some ⟨n3, 0⟩)), .lf (.ptr (some ⟨n1, 0⟩))] [.lf .bool] (toldI n1 n2 n3 most xs i)
      (fun c => cond c (toldI n1 n2 n3 most xs (i + 1)) (toldD n2 n3 (takeN xs most))) :=
  tri_0 (call_canterlaw19_told_c1 _ _ ⟨n2, 0⟩ ⟨n3, 0⟩ ⟨n1, 0⟩) fun w0 S R h => by
    unfold W_canterlaw19_told_c1
    obtain ⟨⟨s1, s2⟩, hi, h⟩ := h.outq1
    dsimp only at hi h
    have hil : i < xs.length := (List.getElem?_eq_some_iff.1 hx).1
    have ht : xs.take (i + 1) = xs.take i ++ [x] := by rw [List.take_add_one, hx]; rfl
    have e1 : (xs.take i).map Prod.fst ++ [x.1] = (xs.take (i + 1)).map Prod.fst := by rw [ht]; simp
    have e2 : (xs.take i).map Prod.snd ++ [x.2] = (xs.take (i + 1)).map Prod.snd := by rw [ht]; simp
    have l1 : ((xs.take i).map Prod.fst).length + [x.1].length ≤ 4294967296 := by simp; omega
    have l2 : ((xs.take i).map Prod.snd).length + [x.2].length ≤ 4294967296 := by simp; omega
    have fin : ∀ {w : World} (s3 s4 : Sl), s3.len = i + 1 → Own w0 S R w (blk n2 [.sl s3] ^ blk n3 [.sl s4] ^ blk n1 [.int .i64 most] ^ arr s3 KI ((xs.take i).map Prod.fst ++ [x.1]) ^ arr s4 KB ((xs.take i).map Prod.snd ++ [x.2])) →
        Own w0 S R w (cond (decide ((s3.len : Int) < most)) (toldI n1 n2 n3 most xs (i + 1)) (toldD n2 n3 (takeN xs most))) := by
      intro w s3 s4 h3 h
      rw [e1, e2] at h
      rw [h3]
      by_cases hc : ((i + 1 : Nat) : Int) < most
      · rw [decide_eq_true hc]
        exact (h.inq (φ := fun _ : Sl × Sl => i + 1 < max 1 most.toNat) (f := fun s => blk n2 [.sl s.1] ^ blk n3 [.sl s.2] ^ blk n1 [.int .i64 most] ^ arr s.1 KI ((xs.take (i + 1)).map Prod.fst) ^ arr s.2 KB ((xs.take (i + 1)).map Prod.snd)) (s3, s4) (by omega)).keep
      · rw [decide_eq_false hc]
        have e : takeN xs most = xs.take (i + 1) := by rw [takeN]; congr 1; omega
        rw [e]
        exact h.ret (f := fun s : Sl × Sl => blk n2 [.sl s.1] ^ blk n3 [.sl s.2] ^ arr s.1 KI ((xs.take (i + 1)).map Prod.fst) ^ arr s.2 KB ((xs.take (i + 1)).map Prod.snd)) (s3, s4)
    have hlen : ((xs.take i).map Prod.fst).length + [x.1].length = i + 1 := by simp; omega
    refine w_drw h fun w h => ?_
    refine w_ld h rfl (w_ld h rfl ?_)
    refine ⟨?_, ?_⟩
    · refine w_new h fun n w h => ?_
      refine w_chk h rfl (w_chk h rfl ?_)
      have h := h.blkArr n KI [x.1] rfl (by simp)
      refine ⟨?_, ?_⟩
      · refine w_app (s := s1) (x := ⟨some ⟨n, 0⟩, 1, 1⟩) h rfl l1 fun s3 w h3 h => ?_
        refine w_chk h rfl ?_
        refine w_new h fun m w h => ?_
        refine w_chk h rfl (w_chk h rfl ?_)
        have h := h.blkArr m KB [x.2] rfl (by simp)
        refine w_app (s := s2) (x := ⟨some ⟨m, 0⟩, 1, 1⟩) h rfl l2 fun s4 w _ h => ?_
        refine w_set h rfl fun w h => ?_
        dsimp only [upd, over] at h
        refine w_set h rfl fun w h => ?_
        dsimp only [upd, over] at h
        refine w_ld h rfl (w_ld h rfl ?_)
        exact fin s3 s4 (h3.trans hlen) h.fin
      · refine w_new h fun m w h => ?_
        refine w_chk h rfl (w_chk h rfl ?_)
        have h := h.blkArr m KB [x.2] rfl (by simp)
        refine w_app (s := s1) (x := ⟨some ⟨n, 0⟩, 1, 1⟩) h rfl l1 fun s3 w h3 h => ?_
        refine w_chk h rfl ?_
        refine w_app (s := s2) (x := ⟨some ⟨m, 0⟩, 1, 1⟩) h rfl l2 fun s4 w _ h => ?_
        refine w_set h rfl fun w h => ?_
        dsimp only [upd, over] at h
        refine w_set h rfl fun w h => ?_
        dsimp only [upd, over] at h
        refine w_ld h rfl (w_ld h rfl ?_)
        exact fin s3 s4 (h3.trans hlen) h.fin
    · refine w_new h fun m w h => ?_
      refine w_chk h rfl (w_chk h rfl ?_)
      have h := h.blkArr m KB [x.2] rfl (by simp)
      refine w_new h fun n w h => ?_
      refine w_chk h rfl (w_chk h rfl ?_)
      have h := h.blkArr n KI [x.1] rfl (by simp)
      refine w_app (s := s1) (x := ⟨some ⟨n, 0⟩, 1, 1⟩) h rfl l1 fun s3 w h3 h => ?_
      refine w_chk h rfl ?_
      refine w_app (s := s2) (x := ⟨some ⟨m, 0⟩, 1, 1⟩) h rfl l2 fun s4 w _ h => ?_
      refine w_set h rfl fun w h => ?_
      dsimp only [upd, over] at h
      refine w_set h rfl fun w h => ?_
      dsimp only [upd, over] at h
      refine w_ld h rfl (w_ld h rfl ?_)
      exact fin s3 s4 (h3.trans hlen) h.fin
theorem told_tri (p : Option Pt) (C : SP) (xs : List (Int × Bool)) (most : Int) (it : ∀ n, Iter Try.prog (mkAll n) (blk n [.ptr p] ^ C) [.lf (.int .i64), .lf .bool] xs) (hl : xs.length ≤ 4294967295) :
    Tri Try.prog N_canterlaw19_told [.lf (.ptr p), .lf (.int .i64 most)] [.lf .sl, .lf .sl] C (fun r => arr r.1 KI ((takeN xs most).map Prod.fst) ^ arr r.2 KB ((takeN xs most).map Prod.snd) ^ C) :=
  tri_0 (call_canterlaw19_told _ _) fun w0 S R h => by
    unfold W_canterlaw19_told
    refine w_new h fun n1 w h => ?_
    refine w_new h fun n2 w h => ?_
    refine w_new h fun n3 w h => ?_
    refine w_call (all_tri p) (h.le (star_emp _)) fun f w h => ?_
    obtain ⟨n, h⟩ := h.exP
    obtain ⟨hf, h⟩ := h.purP
    rw [hf]
    refine w_ite (fun c => by cases c) fun _ => ?_
    have hy : ∀ i x, xs[i]? = some x → TriV Try.prog (.mk (.func N_canterlaw19_told_c1) [] [V1.enc (.lf (.ptr (some ⟨n2, 0⟩))), V1.enc (.lf (.ptr (some ⟨n3, 0⟩))), V1.enc (.lf (.ptr (some ⟨n1, 0⟩)))]) (Rs.mk [.lf (.int .i64), .lf .bool] x) [.lf .bool]
        (toldI n1 n2 n3 most xs i) (fun c => cond c (toldI n1 n2 n3 most xs (i + 1)) (toldD n2 n3 (takeN xs most))) := fun i x hx =>
      (Tri.g (f := N_canterlaw19_told_c1) (args := [.lf (.int .i64 x.1), .lf (.bool x.2)]) (caps := [.lf (.ptr (some ⟨n2, 0⟩)), .lf (.ptr (some ⟨n3, 0⟩)), .lf (.ptr (some ⟨n1, 0⟩))]) (toldc_tri n1 n2 n3 most xs hl i x hx)).v
    have hit := (it n _ _ _ hy).v
    have h := ((h.nil KI).nil KB)
    have h : Own _ _ _ _ (arr ⟨none, 0, 0⟩ KI [] ^ arr ⟨none, 0, 0⟩ KB [] ^ blk n [.ptr p] ^ blk n3 [.sl ⟨none, 0, 0⟩] ^ blk n2 [.sl ⟨none, 0, 0⟩] ^ blk n1 [.int .i64 most] ^ C) := h.fin
    have h : Own _ _ _ _ (arr ⟨none, 0, 0⟩ KI ((xs.take 0).map Prod.fst) ^ arr ⟨none, 0, 0⟩ KB ((xs.take 0).map Prod.snd) ^ blk n [.ptr p] ^ blk n3 [.sl ⟨none, 0, 0⟩] ^ blk n2 [.sl ⟨none, 0, 0⟩] ^ blk n1 [.int .i64 most] ^ C) := h
    have h := h.inq (φ := fun _ : Sl × Sl => 0 < max 1 most.toNat) (f := fun s => blk n2 [.sl s.1] ^ blk n3 [.sl s.2] ^ blk n1 [.int .i64 most] ^ arr s.1 KI ((xs.take 0).map Prod.fst) ^ arr s.2 KB ((xs.take 0).map Prod.snd)) (⟨none, 0, 0⟩, ⟨none, 0, 0⟩) (by omega)
    have h : Own _ _ _ _ (toldI n1 n2 n3 most xs 0 ^ blk n [.ptr p] ^ C) := h
    refine w_callv hit h fun r w h => ?_
    have h := h.take (either (toldI n1 n2 n3 most xs xs.length) (toldD n2 n3 (takeN xs most)))
    have h : Own w0 S R w (toldD n2 n3 (takeN xs most) ^ (blk n [.ptr p] ^ C) ^ emp) := by
      obtain ⟨b, h⟩ := h.exP
      cases b with
      | true =>
        obtain ⟨s, hlt, h⟩ := Own.outq (φ := fun _ : Sl × Sl => xs.length < max 1 most.toNat) (f := fun s => blk n2 [.sl s.1] ^ blk n3 [.sl s.2] ^ blk n1 [.int .i64 most] ^ arr s.1 KI ((xs.take xs.length).map Prod.fst) ^ arr s.2 KB ((xs.take xs.length).map Prod.snd)) h
        have e : takeN xs most = xs.take xs.length := by rw [takeN, List.take_of_length_le (by omega), List.take_length]
        rw [e]
        have h : Own _ _ _ _ ((blk n2 [.sl s.1] ^ blk n3 [.sl s.2] ^ arr s.1 KI ((xs.take xs.length).map Prod.fst) ^ arr s.2 KB ((xs.take xs.length).map Prod.snd)) ^ (blk n [.ptr p] ^ C) ^ emp) := h.fin
        exact h.toEx (f := fun s : Sl × Sl => blk n2 [.sl s.1] ^ blk n3 [.sl s.2] ^ arr s.1 KI ((xs.take xs.length).map Prod.fst) ^ arr s.2 KB ((xs.take xs.length).map Prod.snd)) s
      | false => exact h
    obtain ⟨s, h⟩ := h.exP
    refine w_drw h fun w h => ?_
    refine w_ld h rfl (w_ld h rfl (w_chk h rfl ?_))
    exact h.fin
theorem all9 {v : LV} (h : okL v) (m : Int) (hm : 9 ≤ m) : takeN (allF v) m = allF v := by
  have := h.few
  rw [takeN, List.take_of_length_le]; rw [allF_len]; omega
theorem fst_all (v : LV) : (allF v).map Prod.fst = v.1 ++ v.2 := by simp [allF, Function.comp_def]
theorem tell_tri (b : Nat) (v : LV) (ho : okL v) (most : Int) : Tri Try.prog N_canterlaw19_told [.lf (.ptr (some ⟨b, 0⟩)), .lf (.int .i64 most)] [.lf .sl, .lf .sl] (lst b v) (fun r => arr r.1 KI ((takeN (allF v) most).map Prod.fst) ^ arr r.2 KB ((takeN (allF v) most).map Prod.snd) ^ lst b v) :=
  told_tri _ _ _ _ (fun n => all_iter n b v (by have := ho.few; omega)) (by rw [allF_len]; have := ho.few; omega)
theorem ok0 : okL ([], []) := ⟨List.nodup_nil, fun x hx => by cases hx⟩
theorem awake_tri : Tri Try.prog N_canterlaw19_awake [] [.lf .bool] emp (fun r => pur (r = true) emp) :=
  tri_0 call_canterlaw19_awake fun w S R h => by
    unfold W_canterlaw19_awake
    refine w_call new_tri h fun r w h => ?_
    obtain ⟨b, h⟩ := h.exP
    obtain ⟨hr, h⟩ := h.purP
    rw [hr]
    have o1 : okL (([] : List Int), [1]) := ok0.push 1 false
    have o2 : okL ([2], [1]) := o1.push 2 true
    refine w_join h (fun _ => lst b ([2], [1])) (fun y => y = false) (fun y w hy h => ?_) ?_
    · refine w_ite (fun c => by rw [hy] at c; cases c) fun _ => ?_
      refine w_call (head_tri b ([2], [1]) (by decide)) (h.le (star_emp _)) fun r w h => ?_
      obtain ⟨hr, h⟩ := h.purP
      refine w_call (tell_tri b ([2], [1]) o2 9) h fun r2 w h => ?_
      rw [hr]
      refine w_ite (fun _ => ?_) fun c => by cases c
      refine w_call (place_tri b ([2], [1]) 1 (by decide)) h fun r3 w h => ?_
      obtain ⟨hr3, h⟩ := h.purP
      rw [hr3]
      refine w_ite (fun _ => ?_) fun c => by cases c
      refine w_new h fun n w h => ?_
      have h := h.blkArr n KI [2, 1] rfl (by simp)
      have h := h.arrEq (s := r2.1) (K := KI) (ys := [2, 1]) (by rfl)
      refine w_callL (A := emp) (Q := rarr r2.1 KI [2, 1] ^ rarr ⟨some ⟨n, 0⟩, 2, 2⟩ KI [2, 1]) (Ints.int_plain_tri r2.1 ⟨some ⟨n, 0⟩, 2, 2⟩ [2, 1] [2, 1] (by decide)) h fun r w h => ?_
      obtain ⟨hr, h⟩ := h.purP
      exact Own.retP (hr.2 rfl) h.emp'
    · refine w_ite (fun c => by cases c) fun _ => ?_
      refine w_call (push_tri b ([], []) 1 false (by decide)) h fun r w h => ?_
      obtain ⟨hr, h⟩ := h.purP
      have h : Own _ _ _ _ (lst b ([], [1]) ^ _) := h
      refine w_ite (fun c => by rw [hr] at c; cases c) fun _ => ?_
      refine w_call (push_tri b ([], [1]) 2 true (by decide)) h fun r w h => ?_
      obtain ⟨hr, h⟩ := h.purP
      have h : Own _ _ _ _ (lst b ([2], [1]) ^ _) := h
      exact ⟨by rw [hr]; rfl, h.fin⟩
instance (v : LV) : Decidable (okL v) := by unfold okL; infer_instance
theorem rem_tri (d : Sl) (fs : List Bool) (o : Int) : Tri Try.prog N_canterlaw19_ListsRemove [.lf (.sl d), .lf (.int .i64 o)] [.lf .bool] (rarr d KB fs) (fun r => pur (r = true) emp) :=
  tri_0 (call_canterlaw19_ListsRemove _ _) fun w0 S R h => by
    unfold W_canterlaw19_ListsRemove
    have hd := (h.rd (s := d)).2
    obtain ⟨n, hn, hn8⟩ : ∃ n : Nat, (if (8 : Int) < ((d.len : Nat) : Int) then (8 : Int) else ((d.len : Nat) : Int)) = (n : Int) ∧ n ≤ 8 ∧ n ≤ fs.length := by
      split
      · exact ⟨8, rfl, by omega, by omega⟩
      · exact ⟨d.len, rfl, by omega, by omega⟩
    rw [hn]
    refine w_call new_tri (h.le (star_emp _ |>.trans (star_comm _ _))) fun r w h => ?_
    obtain ⟨b, h⟩ := h.exP
    obtain ⟨hr, h⟩ := h.purP
    rw [hr]
    refine w_call awake_tri (h.le (star_emp _ |>.trans (star_comm _ _))) fun r w h => ?_
    obtain ⟨hr, h⟩ := h.purP
    rw [hr]
    refine w_ite (fun c => by cases c) fun _ => ?_
    refine w_ite (fun c => Own.retP rfl h.emp') fun c => ?_
    have hnz : 0 < n := by simp at c; omega
    have h : Own w0 S R w (lst b ([], []) ^ rarr d KB fs) := h.fin
    refine w_loop (fun (i : Int) => exq (fun v : LV => okL v ∧ v.1.length + v.2.length = i.toNat ∧ ∀ x, x ∈ v.1 ++ v.2 ↔ 0 ≤ x ∧ x < i) (fun v => lst b v ^ rarr d KB fs)) (fun (i : Int) => 0 ≤ i ∧ i ≤ n) (fun (i : Int) => ((n : Int) - i).toNat) (h.inq ([], []) ⟨ok0, rfl, fun x => ⟨fun h => (by cases h), fun h => by have : (0 : Int) ≤ x ∧ x < 0 := h; omega⟩⟩).keep ⟨by simp, by show (0 : Int) ≤ n; omega⟩ ?_
    rintro (i : Int) w ⟨h0, h1⟩ h
    obtain ⟨v, ⟨hv1, hv2, hv3⟩, h⟩ := h.outq1
    have hfew := hv1.few
    refine w_ite (fun c => ?_) fun c => ?_
    · have hi : i < n := by simpa using c
      have hi2 : i.toNat < fs.length := by omega
      obtain ⟨f, hf⟩ : ∃ x, fs[i.toNat]? = some x := ⟨_, at_some hi2⟩
      have h' := h.le (star_comm _ _)
      refine w_idx h' h0 hi2 ?_
      refine w_ldE h' d i.toNat hf rfl ?_
      rw [wi (n := i + 1) (by omega) (by omega)]
      refine w_call (push_tri b v i f (by omega)) h fun r w h => ?_
      obtain ⟨_, h⟩ := h.purP
      have hp : placeF v i = 0 := placeF_0.2 fun hm => by have := (hv3 i).1 hm; omega
      have e : pushF v i f = (0, if f then (v.1 ++ [i], v.2) else (v.1, v.2 ++ [i])) := by
        rw [pushF, if_neg (by omega), if_neg (by rw [hp]; simp)]; cases f <;> rfl
      have hok := hv1.push i f
      rw [e] at h hok
      refine ⟨⟨⟨by show 0 ≤ i + 1; omega, by show i + 1 ≤ _; omega⟩, (h.inq _ ⟨hok, ?_, ?_⟩).keep⟩, by show (_ - (i + 1)).toNat < _; omega⟩
      · show _ = (i + 1).toNat
        cases f <;> simp <;> omega
      · intro x
        show _ ↔ 0 ≤ x ∧ x < i + 1
        have key := hv3 x
        rw [List.mem_append] at key
        have e : (x ∈ (if f then (v.1 ++ [i], v.2) else (v.1, v.2 ++ [i])).1 ++ (if f then (v.1 ++ [i], v.2) else (v.1, v.2 ++ [i])).2) ↔ ((x ∈ v.1 ∨ x ∈ v.2) ∨ x = i) := by
          cases f
          · simp only [List.mem_append, List.mem_singleton, Bool.false_eq_true, if_false, or_assoc]
          · simp only [List.mem_append, List.mem_singleton, if_true]; constructor <;> (intro hh; rcases hh with (hh | hh) | hh <;> simp [hh])
        rw [e, key]; omega
    have hi : i = n := by simp at c; omega
    rw [hi] at hv2 hv3
    have hu : IntKind.u64.wrap (n : Int) = n := wu (by omega) (by omega)
    rw [hu]
    refine ⟨by omega, ?_⟩
    have hm := modr o (m := (n : Int)) (by omega) (by omega)
    generalize IntKind.i64.wrap ((IntKind.u64.wrap o).tmod (n : Int)) = out at hm ⊢
    have hin : out ∈ v.1 ++ v.2 := (hv3 out).2 hm
    have hp : placeF v out ≠ 0 := fun e => placeF_0.1 e hin
    refine w_call (tell_tri b v hv1 99) (h.le (star_emp _)) fun r8 w h => ?_
    rw [all9 hv1 99 (by decide), fst_all] at h
    refine w_call (remove_tri b v out (by omega)) h fun r9 w h => ?_
    obtain ⟨hr9, h⟩ := h.purP
    have hok2 := hv1.out out
    have hfew2 := hok2.few
    have h : Own w0 S R w (lst b (outF v out) ^ _) := h
    refine w_call (tell_tri b (outF v out) hok2 99) h fun r10 w h => ?_
    rw [all9 hok2 99 (by decide), fst_all] at h
    have e12 : (outF v out).1 ++ (outF v out).2 = (v.1 ++ v.2).filter (fun x => decide (x ≠ out)) := by rw [List.filter_append]; rfl
    rw [e12] at h
    have hvl : (v.1 ++ v.2).length = n := by rw [List.length_append]; omega
    generalize hxs : v.1 ++ v.2 = xs at h hvl
    have h := h.nil KI
    have h : Own w0 S R w (arr ⟨none, 0, 0⟩ KI [] ^ arr r8.1 KI xs ^ lst b (outF v out) ^ arr r10.1 KI (xs.filter (fun x => decide (x ≠ out)))) := h.fin
    refine w_loop (fun (y : Sl × Int) => arr y.1 KI ((xs.take y.2.toNat).filter (fun x => decide (x ≠ out))) ^ arr r8.1 KI xs ^ lst b (outF v out) ^ arr r10.1 KI (xs.filter (fun x => decide (x ≠ out)))) (fun (y : Sl × Int) => 0 ≤ y.2 ∧ y.2.toNat ≤ xs.length) (fun (y : Sl × Int) => xs.length - y.2.toNat) h ⟨by simp, by simp⟩ ?_
    rintro (⟨s, i⟩ : Sl × Int) w ⟨h0, h1⟩ h
    dsimp only at h0 h1 h ⊢
    have h' := h.le (star_swap _ _ _)
    have hl8 := (h'.rd (s := r8.1)).2
    refine w_ite (fun c => ?_) fun c => ?_
    · have hi : i.toNat < xs.length := by simp at c; omega
      obtain ⟨x, hx⟩ : ∃ x, xs[i.toNat]? = some x := ⟨_, at_some hi⟩
      have e : (i + 1).toNat = i.toNat + 1 := by omega
      have hk := keep_at (p := fun y => decide (y ≠ out)) hx
      rw [wi (n := i + 1) (by omega) (by omega)]
      refine w_idx h' h0 hi ?_
      refine w_ldE h' r8.1 i.toNat hx rfl ?_
      refine w_ite (fun c2 => ?_) fun c2 => ?_
      · have c2 : x ≠ out := by simpa using c2
        rw [if_pos (decide_eq_true c2)] at hk
        refine w_idx h' h0 hi ?_
        refine w_ldE h' r8.1 i.toNat hx rfl ?_
        refine w_new h fun n w h => ?_
        have h := h.blkArr n KI [x] rfl (by simp)
        have hb : (List.filter (fun y => decide (y ≠ out)) (xs.take i.toNat)).length + [x].length ≤ 4294967296 := by
          have hfl := List.length_filter_le (fun y => decide (y ≠ out)) (xs.take i.toNat)
          rw [List.length_take] at hfl
          rw [List.length_singleton]; omega
        refine w_app (s := s) (x := ⟨some ⟨n, 0⟩, 1, 1⟩) h rfl hb fun s' w _ h => ?_
        have h := h.arrEq (s := s') (K := KI) (ys := (xs.take (i + 1).toNat).filter (fun y => decide (y ≠ out))) (by rw [e, hk])
        exact ⟨⟨⟨by show 0 ≤ i + 1; omega, by show (i + 1).toNat ≤ _; omega⟩, h.fin⟩, by show _ - (i + 1).toNat < _; omega⟩
      · have c2 : x = out := by simpa using c2
        rw [if_neg (by simp [c2]), List.append_nil] at hk
        have h := h.arrEq (s := s) (K := KI) (ys := (xs.take (i + 1).toNat).filter (fun y => decide (y ≠ out))) (by rw [e, hk])
        exact ⟨⟨⟨by show 0 ≤ i + 1; omega, by show (i + 1).toNat ≤ _; omega⟩, h⟩, by show _ - (i + 1).toNat < _; omega⟩
    have hi : i.toNat = xs.length := by simp at c; omega
    rw [hi, List.take_length] at h
    refine w_ite (fun _ => ?_) fun c => ?_
    · refine w_callL (A := emp) (Q := rarr r10.1 KI (xs.filter (fun x => decide (x ≠ out))) ^ rarr s KI (xs.filter (fun x => decide (x ≠ out)))) (Ints.int_plain_tri r10.1 s _ _ (Nat.le_trans (List.length_filter_le _ _) (by omega))) h fun r w h => ?_
      obtain ⟨hr, h⟩ := h.purP
      refine w_ite (fun _ => ?_) fun c => by rw [hr.2 rfl] at c; cases c
      have hnp : placeF (outF v out) out = 0 := placeF_0.2 (out_nomem v out)
      have e : pushF (outF v out) out true = (0, ((outF v out).1 ++ [out], (outF v out).2)) := by
        rw [pushF, if_neg (by omega), if_neg (by rw [hnp]; simp)]; rfl
      refine w_call (push_tri b (outF v out) out true (by omega)) h fun r w h => ?_
      obtain ⟨hr, h⟩ := h.purP
      rw [e] at hr h
      refine w_ite (fun _ => ?_) fun c => by rw [hr] at c; cases c
      refine w_call (place_tri b ((outF v out).1 ++ [out], (outF v out).2) out (by simp; omega)) h fun r w h => ?_
      obtain ⟨hr, h⟩ := h.purP
      exact Own.retP (by rw [hr, placeF, if_pos (by simp)]; rfl) h.emp'
    · exfalso
      rw [hr9, hl8, hvl, removeF, decide_eq_true hp] at c
      simp at c
end ListsLaws

end Go.X
