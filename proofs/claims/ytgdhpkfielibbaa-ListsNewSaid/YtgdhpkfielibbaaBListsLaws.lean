/- Contracts and plain facts: ListsLaws. -/
import Derived.Test.YtgdhpkfielibbaaBPlain
import Derived.Test.YtgdhpkfielibbaaBInts
import Derived.Test.YtgdhpkfielibbaaBLists
import Derived.Test.YtgdhpkfielibbaaXw
import Derived.Test.YtgdhpkfielibbaaK
import Derived.Test.YtgdhpkfielibbaaF0
set_option linter.unusedVariables false
set_option linter.unusedSimpArgs false
namespace Go.X
open Go.Proofs
namespace ListsLaws
open Lists
def toldI (n1 n2 n3 : Nat) (most : Int) (xs : List (Int × Bool)) (i : Nat) : SP := exq (fun _ : Sl × Sl => i < max 1 most.toNat) (fun s => blk n2 [.sl s.1] ^ blk n3 [.sl s.2] ^ blk n1 [.int .i64 most] ^ arr s.1 KI ((xs.take i).map Prod.fst) ^ arr s.2 KB ((xs.take i).map Prod.snd))
def toldD (n2 n3 : Nat) (ys : List (Int × Bool)) : SP := ex fun s : Sl × Sl => blk n2 [.sl s.1] ^ blk n3 [.sl s.2] ^ arr s.1 KI (ys.map Prod.fst) ^ arr s.2 KB (ys.map Prod.snd)
theorem toldc_tri (n1 n2 n3 : Nat) (most : Int) (xs : List (Int × Bool)) (hl : xs.length ≤ 4294967295) (i : Nat) (x : Int × Bool) (hx : xs[i]? = some x) :
    Tri Try.prog N_canterlaw19_told_c1 [.lf (.int .i64 x.1), .lf (.bool x.2), .lf (.ptr (some ⟨n2, 0⟩)), .lf (.ptr (some ⟨n3, 0⟩)), .lf (.ptr (some ⟨n1, 0⟩))] [.lf .bool] (toldI n1 n2 n3 most xs i)
      (fun c => cond c (toldI n1 n2 n3 most xs (i + 1)) (toldD n2 n3 (takeN xs most))) :=
  tri_0 (call_canterlaw19_told_c1 _ _ ⟨n2, 0⟩ ⟨n3, 0⟩ ⟨n1, 0⟩) fun w0 S R h => by
    unfold W_canterlaw19_told_c1
    obtain ⟨⟨s1, s2⟩, hi, h⟩ := h.outq1
    dsimp only at hi h
    have hil : i < xs.length := (List.getElem?_eq_some_iff.1 hx).1
    have ht : xs.take (i + 1) = xs.take i ++ [x] := by rw [List.take_add_one, hx]; rfl
    have e1 : (xs.take i).map Prod.fst ++ [x.1] = (xs.take (i + 1)).map Prod.fst := by rw [ht]; simp
    have e2 : (xs.take i).map Prod.snd ++ [x.2] = (xs.take (i + 1)).map Prod.snd := by rw [ht]; simp
    have l1 : ((xs.take i).map Prod.fst).length + [x.1].length ≤ 4294967296 := by simp; omega
    have l2 : ((xs.take i).map Prod.snd).length + [x.2].length ≤ 4294967296 := by simp; omega
    have fin : ∀ {w : World} (s3 s4 : Sl), s3.len = i + 1 → Own w0 S R w (blk n2 [.sl s3] ^ blk n3 [.sl s4] ^ blk n1 [.int .i64 most] ^ arr s3 KI ((xs.take i).map Prod.fst ++ [x.1]) ^ arr s4 KB ((xs.take i).map Prod.snd ++ [x.2])) →
        Own w0 S R w (cond (decide ((s3.len : Int) < most)) (toldI n1 n2 n3 most xs (i + 1)) (toldD n2 n3 (takeN xs most))) := by
      intro w s3 s4 h3 h
      rw [e1, e2] at h
      rw [h3]
      by_cases hc : ((i + 1 : Nat) : Int) < most
      · rw [decide_eq_true hc]
        exact (h.inq (φ := fun _ : Sl × Sl => i + 1 < max 1 most.toNat) (f := fun s => blk n2 [.sl s.1] ^ blk n3 [.sl s.2] ^ blk n1 [.int .i64 most] ^ arr s.1 KI ((xs.take (i + 1)).map Prod.fst) ^ arr s.2 KB ((xs.take (i + 1)).map Prod.snd)) (s3, s4) (by omega)).keep
      · rw [decide_eq_false hc]
        have e : takeN xs most = xs.take (i + 1) := by rw [takeN]; congr 1; omega
        rw [e]
        exact h.ret (f := fun s : Sl × Sl => blk n2 [.sl s.1] ^ blk n3 [.sl s.2] ^ arr s.1 KI ((xs.take (i + 1)).map Prod.fst) ^ arr s.2 KB ((xs.take (i + 1)).map Prod.snd)) (s3, s4)
    have hlen : ((xs.take i).map Prod.fst).length + [x.1].length = i + 1 := by simp; omega
    refine w_drw h fun w h => ?_
    refine w_ld h rfl (w_ld h rfl ?_)
    refine ⟨?_, ?_⟩
    · refine w_new h fun n w h => ?_
      refine w_chk h rfl (w_chk h rfl ?_)
      have h := h.blkArr n KI [x.1] rfl (by simp)
      refine ⟨?_, ?_⟩
      · refine w_app (s := s1) (x := ⟨some ⟨n, 0⟩, 1, 1⟩) h rfl l1 fun s3 w h3 h => ?_
        refine w_chk h rfl ?_
        refine w_new h fun m w h => ?_
        refine w_chk h rfl (w_chk h rfl ?_)
        have h := h.blkArr m KB [x.2] rfl (by simp)
        refine w_app (s := s2) (x := ⟨some ⟨m, 0⟩, 1, 1⟩) h rfl l2 fun s4 w _ h => ?_
        refine w_set h rfl fun w h => ?_
        dsimp only [upd, over] at h
        refine w_set h rfl fun w h => ?_
        dsimp only [upd, over] at h
        refine w_ld h rfl (w_ld h rfl ?_)
        exact fin s3 s4 (h3.trans hlen) h.fin
      · refine w_new h fun m w h => ?_
        refine w_chk h rfl (w_chk h rfl ?_)
        have h := h.blkArr m KB [x.2] rfl (by simp)
        refine w_app (s := s1) (x := ⟨some ⟨n, 0⟩, 1, 1⟩) h rfl l1 fun s3 w h3 h => ?_
        refine w_chk h rfl ?_
        refine w_app (s := s2) (x := ⟨some ⟨m, 0⟩, 1, 1⟩) h rfl l2 fun s4 w _ h => ?_
        refine w_set h rfl fun w h => ?_
        dsimp only [upd, over] at h
        refine w_set h rfl fun w h => ?_
        dsimp only [upd, over] at h
        refine w_ld h rfl (w_ld h rfl ?_)
        exact fin s3 s4 (h3.trans hlen) h.fin
    · refine w_new h fun m w h => ?_
      refine w_chk h rfl (w_chk h rfl ?_)
      have h := h.blkArr m KB [x.2] rfl (by simp)
      refine w_new h fun n w h => ?_
      refine w_chk h rfl (w_chk h rfl ?_)
      have h := h.blkArr n KI [x.1] rfl (by simp)
      refine w_app (s := s1) (x := ⟨some ⟨n, 0⟩, 1, 1⟩) h rfl l1 fun s3 w h3 h => ?_
      refine w_chk h rfl ?_
      refine w_app (s := s2) (x := ⟨some ⟨m, 0⟩, 1, 1⟩) h rfl l2 fun s4 w _ h => ?_
      refine w_set h rfl fun w h => ?_
      dsimp only [upd, over] at h
      refine w_set h rfl fun w h => ?_
      dsimp only [upd, over] at h
      refine w_ld h rfl (w_ld h rfl ?_)
      exact fin s3 s4 (h3.trans hlen) h.fin
theorem told_tri (p : Option Pt) (C : SP) (xs : List (Int × Bool)) (most : Int) (it : ∀ n, Iter Try.prog (mkAll n) (blk n [.ptr p] ^ C) [.lf (.int .i64), .lf .bool] xs) (hl : xs.length ≤ 4294967295) :
    Tri Try.prog N_canterlaw19_told [.lf (.ptr p), .lf (.int .i64 most)] [.lf .sl, .lf .sl] C (fun r => arr r.1 KI ((takeN xs most).map Prod.fst) ^ arr r.2 KB ((takeN xs most).map Prod.snd) ^ C) :=
  tri_0 (call_canterlaw19_told _ _) fun w0 S R h => by
    unfold W_canterlaw19_told
    refine w_new h fun n1 w h => ?_
    refine w_new h fun n2 w h => ?_
    refine w_new h fun n3 w h => ?_
    refine w_call (all_tri p) (h.le (star_emp _)) fun f w h => ?_
    obtain ⟨n, h⟩ := h.exP
    obtain ⟨hf, h⟩ := h.purP
    rw [hf]
    refine w_ite (fun c => by cases c) fun _ => ?_
    have hy : ∀ i x, xs[i]? = some x → TriV Try.prog (.mk (.func N_canterlaw19_told_c1) [] [V1.enc (.lf (.ptr (some ⟨n2, 0⟩))), V1.enc (.lf (.ptr (some ⟨n3, 0⟩))), V1.enc (.lf (.ptr (some ⟨n1, 0⟩)))]) (Rs.mk [.lf (.int .i64), .lf .bool] x) [.lf .bool]
        (toldI n1 n2 n3 most xs i) (fun c => cond c (toldI n1 n2 n3 most xs (i + 1)) (toldD n2 n3 (takeN xs most))) := fun i x hx =>
      (Tri.g (f := N_canterlaw19_told_c1) (args := [.lf (.int .i64 x.1), .lf (.bool x.2)]) (caps := [.lf (.ptr (some ⟨n2, 0⟩)), .lf (.ptr (some ⟨n3, 0⟩)), .lf (.ptr (some ⟨n1, 0⟩))]) (toldc_tri n1 n2 n3 most xs hl i x hx)).v
    have hit := (it n _ _ _ hy).v
    have h := ((h.nil KI).nil KB)
    have h : Own _ _ _ _ (arr ⟨none, 0, 0⟩ KI [] ^ arr ⟨none, 0, 0⟩ KB [] ^ blk n [.ptr p] ^ blk n3 [.sl ⟨none, 0, 0⟩] ^ blk n2 [.sl ⟨none, 0, 0⟩] ^ blk n1 [.int .i64 most] ^ C) := h.fin
    have h : Own _ _ _ _ (arr ⟨none, 0, 0⟩ KI ((xs.take 0).map Prod.fst) ^ arr ⟨none, 0, 0⟩ KB ((xs.take 0).map Prod.snd) ^ blk n [.ptr p] ^ blk n3 [.sl ⟨none, 0, 0⟩] ^ blk n2 [.sl ⟨none, 0, 0⟩] ^ blk n1 [.int .i64 most] ^ C) := h
    have h := h.inq (φ := fun _ : Sl × Sl => 0 < max 1 most.toNat) (f := fun s => blk n2 [.sl s.1] ^ blk n3 [.sl s.2] ^ blk n1 [.int .i64 most] ^ arr s.1 KI ((xs.take 0).map Prod.fst) ^ arr s.2 KB ((xs.take 0).map Prod.snd)) (⟨none, 0, 0⟩, ⟨none, 0, 0⟩) (by omega)
    have h : Own _ _ _ _ (toldI n1 n2 n3 most xs 0 ^ blk n [.ptr p] ^ C) := h
    refine w_callv hit h fun r w h => ?_
    have h := h.take (either (toldI n1 n2 n3 most xs xs.length) (toldD n2 n3 (takeN xs most)))
    have h : Own w0 S R w (toldD n2 n3 (takeN xs most) ^ (blk n [.ptr p] ^ C) ^ emp) := by
      obtain ⟨b, h⟩ := h.exP
      cases b with
      | true =>
        obtain ⟨s, hlt, h⟩ := Own.outq (φ := fun _ : Sl × Sl => xs.length < max 1 most.toNat) (f := fun s => blk n2 [.sl s.1] ^ blk n3 [.sl s.2] ^ blk n1 [.int .i64 most] ^ arr s.1 KI ((xs.take xs.length).map Prod.fst) ^ arr s.2 KB ((xs.take xs.length).map Prod.snd)) h
        have e : takeN xs most = xs.take xs.length := by rw [takeN, List.take_of_length_le (by omega), List.take_length]
        rw [e]
        have h : Own _ _ _ _ ((blk n2 [.sl s.1] ^ blk n3 [.sl s.2] ^ arr s.1 KI ((xs.take xs.length).map Prod.fst) ^ arr s.2 KB ((xs.take xs.length).map Prod.snd)) ^ (blk n [.ptr p] ^ C) ^ emp) := h.fin
        exact h.toEx (f := fun s : Sl × Sl => blk n2 [.sl s.1] ^ blk n3 [.sl s.2] ^ arr s.1 KI ((xs.take xs.length).map Prod.fst) ^ arr s.2 KB ((xs.take xs.length).map Prod.snd)) s
      | false => exact h
    obtain ⟨s, h⟩ := h.exP
    refine w_drw h fun w h => ?_
    refine w_ld h rfl (w_ld h rfl (w_chk h rfl ?_))
    exact h.fin
theorem tell_tri (b : Nat) (v : LV) (ho : okL v) (most : Int) : Tri Try.prog N_canterlaw19_told [.lf (.ptr (some ⟨b, 0⟩)), .lf (.int .i64 most)] [.lf .sl, .lf .sl] (lst b v) (fun r => arr r.1 KI ((takeN (allF v) most).map Prod.fst) ^ arr r.2 KB ((takeN (allF v) most).map Prod.snd) ^ lst b v) :=
  told_tri _ _ _ _ (fun n => all_iter n b v (by have := ho.few; omega)) (by rw [allF_len]; have := ho.few; omega)
theorem ok0 : okL ([], []) := ⟨List.nodup_nil, fun x hx => by cases hx⟩
theorem awake_tri : Tri Try.prog N_canterlaw19_awake [] [.lf .bool] emp (fun r => pur (r = true) emp) :=
  tri_0 call_canterlaw19_awake fun w S R h => by
    unfold W_canterlaw19_awake
    refine w_call new_tri h fun r w h => ?_
    obtain ⟨b, h⟩ := h.exP
    obtain ⟨hr, h⟩ := h.purP
    rw [hr]
    have o1 : okL (([] : List Int), [1]) := ok0.push 1 false
    have o2 : okL ([2], [1]) := o1.push 2 true
    refine w_join h (fun _ => lst b ([2], [1])) (fun y => y = false) (fun y w hy h => ?_) ?_
    · refine w_ite (fun c => by rw [hy] at c; cases c) fun _ => ?_
      refine w_call (head_tri b ([2], [1]) (by decide)) (h.le (star_emp _)) fun r w h => ?_
      obtain ⟨hr, h⟩ := h.purP
      refine w_call (tell_tri b ([2], [1]) o2 9) h fun r2 w h => ?_
      rw [hr]
      refine w_ite (fun _ => ?_) fun c => by cases c
      refine w_call (place_tri b ([2], [1]) 1 (by decide)) h fun r3 w h => ?_
      obtain ⟨hr3, h⟩ := h.purP
      rw [hr3]
      refine w_ite (fun _ => ?_) fun c => by cases c
      refine w_new h fun n w h => ?_
      have h := h.blkArr n KI [2, 1] rfl (by simp)
      have h := h.arrEq (s := r2.1) (K := KI) (ys := [2, 1]) (by rfl)
      refine w_callL (A := emp) (Q := rarr r2.1 KI [2, 1] ^ rarr ⟨some ⟨n, 0⟩, 2, 2⟩ KI [2, 1]) (Ints.int_plain_tri r2.1 ⟨some ⟨n, 0⟩, 2, 2⟩ [2, 1] [2, 1] (by decide)) h fun r w h => ?_
      obtain ⟨hr, h⟩ := h.purP
      exact Own.retP (hr.2 rfl) h.emp'
    · refine w_ite (fun c => by cases c) fun _ => ?_
      refine w_call (push_tri b ([], []) 1 false (by decide)) h fun r w h => ?_
      obtain ⟨hr, h⟩ := h.purP
      have h : Own _ _ _ _ (lst b ([], [1]) ^ _) := h
      refine w_ite (fun c => by rw [hr] at c; cases c) fun _ => ?_
      refine w_call (push_tri b ([], [1]) 2 true (by decide)) h fun r w h => ?_
      obtain ⟨hr, h⟩ := h.purP
      have h : Own _ _ _ _ (lst b ([2], [1]) ^ _) := h
      exact ⟨by rw [hr]; rfl, h.fin⟩
instance (v : LV) : Decidable (okL v) := by unfold okL; infer_instance
/-- Sockets from one number on, up to another. -/
def rng (a b : Nat) : List Int := (List.range (b - a)).map (fun k => ((a + k : Nat) : Int))
theorem push_rng : ∀ n : Nat, n < 8 → pushF ([], rng 0 n) (n : Int) false = (0, ([], rng 0 (n + 1))) := by decide
theorem rng_ok : ∀ n : Nat, n < 9 → (rng 0 n).length = n ∧ (rng 0 n).Nodup ∧ ∀ x ∈ rng 0 n, 0 ≤ x ∧ x < 8 := by decide
/-- How the lists stand: f new ones of which i have gone back, o old ones of which j are gone. -/
def nw (o f i j : Nat) : LV := (rng (5 + i) (5 + f), rng j o ++ rng 5 (5 + i))
theorem nw_new : ∀ o : Nat, o < 5 → ∀ k : Nat, k < 3 → pushF (nw o k 0 0) ((5 + k : Nat) : Int) true = (0, nw o (k + 1) 0 0) ∧ okL (nw o k 0 0) := by decide
theorem nw_ok1 : ∀ o : Nat, o < 5 → ∀ f : Nat, f < 4 → ∀ i : Nat, i < f + 1 → okL (nw o f i 0) := by decide
theorem nw_ok2 : ∀ o : Nat, o < 5 → ∀ f : Nat, f < 4 → ∀ j : Nat, j < o + 1 → okL (nw o f f j) := by decide
theorem nw_b1 : ∀ o : Nat, o < 5 → ∀ f : Nat, f < 4 → ∀ i : Nat, i < f → headF (nw o f i 0) = (((5 + i : Nat) : Int), true, true) := by decide
theorem nw_b2 : ∀ o : Nat, o < 5 → ∀ f : Nat, f < 4 → ∀ i : Nat, i < f → placeF (nw o f i 0) ((5 + i : Nat) : Int) = 1 := by decide
def eqv (a b : Bool × LV) : Bool := decide (a = b)
theorem eqv_eq {a b : Bool × LV} (h : eqv a b = true) : a = b := of_decide_eq_true h
theorem nw_b3 : ∀ o : Nat, o < 5 → ∀ f : Nat, f < 4 → ∀ i : Nat, i < f → eqv (backF (nw o f i 0)) (true, nw o f (i + 1) 0) = true := by decide
theorem nw_b4 : ∀ o : Nat, o < 5 → ∀ f : Nat, f < 4 → ∀ i : Nat, i < f → placeF (nw o f (i + 1) 0) ((5 + i : Nat) : Int) = 2 := by decide
theorem nw_back (o : Nat) (ho : o < 5) (f : Nat) (hf : f < 4) (i : Nat) (hi : i < f) : headF (nw o f i 0) = (((5 + i : Nat) : Int), true, true) ∧ placeF (nw o f i 0) ((5 + i : Nat) : Int) = 1 ∧ backF (nw o f i 0) = (true, nw o f (i + 1) 0) ∧ placeF (nw o f (i + 1) 0) ((5 + i : Nat) : Int) = 2 ∧ okL (nw o f i 0) ∧ okL (nw o f (i + 1) 0) :=
  ⟨nw_b1 o ho f hf i hi, nw_b2 o ho f hf i hi, eqv_eq (nw_b3 o ho f hf i hi), nw_b4 o ho f hf i hi, nw_ok1 o ho f hf i (by omega), nw_ok1 o ho f hf (i + 1) (by omega)⟩
theorem nw_d1 : ∀ o : Nat, o < 5 → ∀ f : Nat, f < 4 → ∀ j : Nat, j < o → headF (nw o f f j) = ((j : Int), false, true) := by decide
theorem nw_d2 : ∀ o : Nat, o < 5 → ∀ f : Nat, f < 4 → ∀ j : Nat, j < o → eqv (dropF (nw o f f j)) (true, nw o f f (j + 1)) = true := by decide
theorem nw_d3 : ∀ o : Nat, o < 5 → ∀ f : Nat, f < 4 → ∀ j : Nat, j < o → placeF (nw o f f (j + 1)) (j : Int) = 0 := by decide
theorem nw_drop (o : Nat) (ho : o < 5) (f : Nat) (hf : f < 4) (j : Nat) (hj : j < o) : headF (nw o f f j) = ((j : Int), false, true) ∧ dropF (nw o f f j) = (true, nw o f f (j + 1)) ∧ placeF (nw o f f (j + 1)) (j : Int) = 0 ∧ okL (nw o f f j) ∧ okL (nw o f f (j + 1)) :=
  ⟨nw_d1 o ho f hf j hj, eqv_eq (nw_d2 o ho f hf j hj), nw_d3 o ho f hf j hj, nw_ok2 o ho f hf j (by omega), nw_ok2 o ho f hf (j + 1) (by omega)⟩
theorem nw_e1 : ∀ o : Nat, o < 5 → ∀ f : Nat, f < 3 → headF (nw o (f + 1) (f + 1) o) = (5, false, true) := by decide
theorem nw_e2 : ∀ o : Nat, o < 5 → ∀ f : Nat, f < 3 → (removeF (nw o (f + 1) (f + 1) o) 5).1 = true ∧ (removeF (removeF (nw o (f + 1) (f + 1) o) 5).2 5).1 = false := by decide
theorem nw_end (o : Nat) (ho : o < 5) (f : Nat) (hf : f < 4) (h0 : 0 < f) : headF (nw o f f o) = (5, false, true) ∧ okL (nw o f f o) ∧ (removeF (nw o f f o) 5).1 = true ∧ (removeF (removeF (nw o f f o) 5).2 5).1 = false := by
  obtain ⟨g, rfl⟩ : ∃ g, f = g + 1 := ⟨f - 1, by omega⟩
  exact ⟨nw_e1 o ho g (by omega), nw_ok2 o ho _ hf o (by omega), nw_e2 o ho g (by omega)⟩
theorem new0 (o : Nat) : ([], rng 0 o) = nw o 0 0 0 := by simp [nw, rng]
theorem new_law_tri (d o : Int) : Tri Try.prog N_canterlaw19_ListsNew [.lf (.int .i64 d), .lf (.int .i64 o)] [.lf .bool] emp (fun r => pur (r = true) emp) :=
  tri_0 (call_canterlaw19_ListsNew _ _) fun w0 S R h => by
    unfold W_canterlaw19_ListsNew
    have hd := modr d (m := 5) (by decide) (by decide)
    have ho := modr o (m := 3) (by decide) (by decide)
    generalize IntKind.i64.wrap ((IntKind.u64.wrap d).tmod 5) = d' at hd ⊢
    generalize IntKind.i64.wrap ((IntKind.u64.wrap o).tmod 3) = o' at ho ⊢
    rw [wi (n := 1 + o') (by omega) (by omega)]
    obtain ⟨n, rfl⟩ : ∃ n : Nat, d' = (n : Int) := ⟨d'.toNat, by omega⟩
    obtain ⟨f, hf⟩ : ∃ n : Nat, 1 + o' = (n : Int) := ⟨(1 + o').toNat, by omega⟩
    rw [hf]
    refine w_call new_tri h fun r w h => ?_
    obtain ⟨b, h⟩ := h.exP
    obtain ⟨hr, h⟩ := h.purP
    rw [hr]
    refine w_call awake_tri (h.le (star_emp _ |>.trans (star_comm _ _))) fun r w h => ?_
    obtain ⟨hr, h⟩ := h.purP
    rw [hr]
    refine w_ite (fun c => by cases c) fun _ => ?_
    have h := h.take (lst b ([], []))
    have h : Own w0 S R w (lst b ([], rng 0 0)) := h.keep
    refine w_loop (fun (i : Int) => lst b ([], rng 0 i.toNat)) (fun (i : Int) => 0 ≤ i ∧ i ≤ n) (fun (i : Int) => ((n : Int) - i).toNat) h ⟨by simp, by show (0 : Int) ≤ n; omega⟩ ?_
    rintro (i : Int) w ⟨h0, h1⟩ h
    refine w_ite (fun c => ?_) fun c => ?_
    · have hi : i < n := by simpa using c
      have e := push_rng i.toNat (by omega)
      rw [Int.toNat_of_nonneg h0] at e
      have hl := (rng_ok i.toNat (by omega)).1
      refine w_call (push_tri b ([], rng 0 i.toNat) i false (by show 0 + (rng 0 i.toNat).length ≤ _; omega)) (h.le (star_emp _)) fun r w h => ?_
      obtain ⟨_, h⟩ := h.purP
      rw [e] at h
      rw [wi (n := i + 1) (by omega) (by omega)]
      refine ⟨⟨⟨by show 0 ≤ i + 1; omega, by show i + 1 ≤ _; omega⟩, ?_⟩, by show (_ - (i + 1)).toNat < _; omega⟩
      show Own w0 S R w (lst b ([], rng 0 (i + 1).toNat))
      rw [show (i + 1).toNat = i.toNat + 1 by omega]
      exact h.keep
    have hi : i = n := by simp at c; omega
    rw [hi, show ((n : Int)).toNat = n by omega, new0] at h
    refine w_loop (fun (i : Int) => lst b (nw n i.toNat 0 0)) (fun (i : Int) => 0 ≤ i ∧ i ≤ f) (fun (i : Int) => ((f : Int) - i).toNat) h ⟨by simp, by show (0 : Int) ≤ f; omega⟩ ?_
    rintro (i : Int) w ⟨h0, h1⟩ h
    refine w_ite (fun c => ?_) fun c => ?_
    · have hi : i < f := by simpa using c
      obtain ⟨e, eo⟩ := nw_new n (by omega) i.toNat (by omega)
      have e5 : ((5 + i.toNat : Nat) : Int) = 5 + i := by omega
      rw [e5] at e
      rw [wi (n := i + 1) (by omega) (by omega), wi (n := 5 + i) (by omega) (by omega)]
      refine w_call (push_tri b (nw n i.toNat 0 0) (5 + i) true (by have := eo.few; omega)) (h.le (star_emp _)) fun r w h => ?_
      obtain ⟨_, h⟩ := h.purP
      rw [e] at h
      refine ⟨⟨⟨by show 0 ≤ i + 1; omega, by show i + 1 ≤ _; omega⟩, ?_⟩, by show (_ - (i + 1)).toNat < _; omega⟩
      show Own w0 S R w (lst b (nw n (i + 1).toNat 0 0))
      rw [show (i + 1).toNat = i.toNat + 1 by omega]
      exact h.keep
    have hi : i = f := by simp at c; omega
    rw [hi, show ((f : Int)).toNat = f by omega] at h
    refine w_loop (fun (i : Int) => lst b (nw n f i.toNat 0)) (fun (i : Int) => 0 ≤ i ∧ i ≤ f) (fun (i : Int) => ((f : Int) - i).toNat) h ⟨by simp, by show (0 : Int) ≤ f; omega⟩ ?_
    rintro (i : Int) w ⟨h0, h1⟩ h
    refine w_ite (fun c => ?_) fun c => ?_
    · have hi : i < f := by simpa using c
      obtain ⟨e1, e2, e3, e4, e5, e6⟩ := nw_back n (by omega) f (by omega) i.toNat (by omega)
      have l5 := e5.few
      have l6 := e6.few
      have ec : ((5 + i.toNat : Nat) : Int) = 5 + i := by omega
      rw [ec] at e1 e2 e4
      rw [wi (n := i + 1) (by omega) (by omega), wi (n := 5 + i) (by omega) (by omega)]
      refine w_call (head_tri b (nw n f i.toNat 0) (by omega)) (h.le (star_emp _)) fun r w h => ?_
      obtain ⟨hr, h⟩ := h.purP
      rw [e1] at hr
      rw [hr]
      refine w_join h (fun _ => lst b (nw n f (i.toNat + 1) 0)) (fun (y : Bool) => y = false) (fun (y : Bool) w hy h => ?_) ?_
      · refine w_ite (fun c => by rw [hy] at c; cases c) fun _ => ?_
        refine ⟨⟨⟨by show 0 ≤ i + 1; omega, by show i + 1 ≤ _; omega⟩, ?_⟩, by show (_ - (i + 1)).toNat < _; omega⟩
        show Own w0 S R w (lst b (nw n f (i + 1).toNat 0))
        rw [show (i + 1).toNat = i.toNat + 1 by omega]
        exact h
      · refine w_ite (fun c => by simp at c) fun _ => ?_
        refine w_call (place_tri b (nw n f i.toNat 0) (5 + i) (by omega)) h fun r w h => ?_
        obtain ⟨hr, h⟩ := h.purP
        rw [e2] at hr
        refine w_ite (fun c => by rw [hr] at c; cases c) fun _ => ?_
        refine w_call (back_tri b (nw n f i.toNat 0) e5) h fun r w h => ?_
        rw [e3] at h
        obtain ⟨hr, h⟩ := h.purP
        refine w_ite (fun c => by rw [hr] at c; cases c) fun _ => ?_
        refine w_call (place_tri b (nw n f (i.toNat + 1) 0) (5 + i) (by omega)) h fun r w h => ?_
        obtain ⟨hr, h⟩ := h.purP
        rw [e4] at hr
        exact ⟨by rw [hr]; rfl, h.fin⟩
    have hi : i = f := by simp at c; omega
    rw [hi, show ((f : Int)).toNat = f by omega] at h
    refine w_loop (fun (i : Int) => lst b (nw n f f i.toNat)) (fun (i : Int) => 0 ≤ i ∧ i ≤ n) (fun (i : Int) => ((n : Int) - i).toNat) h ⟨by simp, by show (0 : Int) ≤ n; omega⟩ ?_
    rintro (i : Int) w ⟨h0, h1⟩ h
    refine w_ite (fun c => ?_) fun c => ?_
    · have hi : i < n := by simpa using c
      obtain ⟨e1, e3, e4, e5, e6⟩ := nw_drop n (by omega) f (by omega) i.toNat (by omega)
      have l5 := e5.few
      have l6 := e6.few
      rw [Int.toNat_of_nonneg h0] at e1 e4
      rw [wi (n := i + 1) (by omega) (by omega)]
      refine w_call (head_tri b (nw n f f i.toNat) (by omega)) (h.le (star_emp _)) fun r w h => ?_
      obtain ⟨hr, h⟩ := h.purP
      rw [e1] at hr
      rw [hr]
      refine w_join h (fun _ => lst b (nw n f f (i.toNat + 1))) (fun (y : Bool) => y = false) (fun (y : Bool) w hy h => ?_) ?_
      · refine w_ite (fun c => by rw [hy] at c; cases c) fun _ => ?_
        refine ⟨⟨⟨by show 0 ≤ i + 1; omega, by show i + 1 ≤ _; omega⟩, ?_⟩, by show (_ - (i + 1)).toNat < _; omega⟩
        show Own w0 S R w (lst b (nw n f f (i + 1).toNat))
        rw [show (i + 1).toNat = i.toNat + 1 by omega]
        exact h
      · refine w_ite (fun c => by simp at c) fun _ => ?_
        refine w_call (drop_tri b (nw n f f i.toNat) (by omega)) h fun r w h => ?_
        rw [e3] at h
        obtain ⟨hr, h⟩ := h.purP
        refine w_ite (fun c => by rw [hr] at c; cases c) fun _ => ?_
        refine w_call (place_tri b (nw n f f (i.toNat + 1)) i (by omega)) h fun r w h => ?_
        obtain ⟨hr, h⟩ := h.purP
        rw [e4] at hr
        exact ⟨by rw [hr]; rfl, h.fin⟩
    have hi : i = n := by simp at c; omega
    rw [hi, show ((n : Int)).toNat = n by omega] at h
    obtain ⟨e1, e2, e3, e4⟩ := nw_end n (by omega) f (by omega) (by omega)
    have l2 := e2.few
    have l3 := (e2.out 5).few
    refine w_call (head_tri b (nw n f f n) (by omega)) (h.le (star_emp _)) fun r w h => ?_
    obtain ⟨hr, h⟩ := h.purP
    rw [e1] at hr
    rw [hr]
    refine w_ite (fun _ => ?_) fun c => by cases c
    refine w_call (remove_tri b (nw n f f n) 5 (by omega)) h fun r w h => ?_
    obtain ⟨hr, h⟩ := h.purP
    rw [e3] at hr
    refine w_ite (fun _ => ?_) fun c => by rw [hr] at c; cases c
    refine w_call (remove_tri b (removeF (nw n f f n) 5).2 5 (by show (outF (nw n f f n) 5).1.length + (outF (nw n f f n) 5).2.length ≤ _; omega)) h fun r w h => ?_
    obtain ⟨hr, h⟩ := h.purP
    rw [e4] at hr
    exact Own.retP (by rw [hr]; rfl) h.emp'
end ListsLaws

end Go.X
