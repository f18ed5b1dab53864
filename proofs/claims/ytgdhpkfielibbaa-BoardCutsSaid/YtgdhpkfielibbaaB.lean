/- Contracts of the functions. -/
import Derived.Test.YtgdhpkfielibbaaXu
import Derived.Test.YtgdhpkfielibbaaF
set_option linter.unusedVariables false
namespace Go.X
open Go.Proofs

abbrev Pc := Ks.T K_u6b3
abbrev Rg := Ks.T [.int .u64, .int .u64]
abbrev KR : Ks := [.int .u64, .int .u64]
def brd (b : Nat) (v : List Pc × Int) : SP := ex fun s => blk b [.sl s, .int .u64 v.2] ^ arr s K_u6b3 v.1
abbrev Snt := Ks.T K_u4b
def mkPc (f t : Int) (s : Snt) : Pc := (f, t, s.1, s.2.1, s.2.2.1, s.2.2.2.1, s.2.2.2.2, false, false)
def sentF (v : List Pc × Int) (f t : Int) (s : Snt) : Int × (List Pc × Int) :=
  if f ≠ v.2 ∨ t ≤ f then (1, v) else if 4096 ≤ v.1.length then (5, v) else (0, (v.1 ++ [mkPc f t s], t))
instance (b : Nat) (v : List Pc × Int) : NoR (brd b v) := by unfold brd; infer_instance
theorem Own.brd {w0 w : World} {S0 R0 : Nat → Prop} {F G : SP} {v : List Pc × Int} (h : Own w0 S0 R0 w F) (b : Nat) [t : TakeK X.brd b F v G] : ∃ s, Own w0 S0 R0 w (blk b [.sl s, .int .u64 v.2] ^ arr s K_u6b3 v.1 ^ G) := by
  obtain ⟨s, h⟩ := (h.le t.le).exP
  exact ⟨s, h.le (star_assoc _ _ _)⟩
theorem Own.mkBrd {w0 w : World} {S0 R0 : Nat → Prop} {F G : SP} (h : Own w0 S0 R0 w F) (b : Nat) (s : Sl) (l : List Pc) (e : Int) [t : Take (blk b [.sl s, .int .u64 e] ^ arr s K_u6b3 l) F G] : Own w0 S0 R0 w (X.brd b (l, e) ^ G) :=
  (h.le t.le).toEx (f := fun s => blk b [.sl s, .int .u64 e] ^ arr s K_u6b3 l) s
theorem new_tri : Tri Try.prog 13 [] [.lf .ptr] emp (fun r => ex fun b => pur (r = some ⟨b, 0⟩) (brd b ([], 0))) :=
  tri_0 call_board_New fun w S R h => by
    unfold W_board_New
    refine w_new h fun n1 w h => ?_
    exact Own.retE n1 (Own.retP rfl ((h.nil K_u6b3).mkBrd n1 ⟨none, 0, 0⟩ [] 0).keep)
theorem end_tri (b : Nat) (v : List Pc × Int) : Tri Try.prog 16 [.lf (.ptr (some ⟨b, 0⟩))] [.lf (.int .u64)] (brd b v) (fun r => pur (r = v.2) (brd b v)) :=
  tri_0 (call_board_Board_End _) fun w S R h => by
    unfold W_board_Board_End
    obtain ⟨s, h⟩ := h.brd b
    refine w_ite (fun c => (by cases c)) fun c => ?_
    refine w_deref (w_ld h rfl ?_)
    exact Own.retP rfl (h.mkBrd b s v.1 v.2).keep
theorem sent_tri (b : Nat) (f t : Int) (s : Snt) (v : List Pc × Int) :
    Tri Try.prog 15 [.lf (.ptr (some ⟨b, 0⟩)), .lf (.int .u64 f), .lf (.int .u64 t), .agg (Ks.mk K_u4b s)] [.lf (.int .i64)] (brd b v)
      (fun r => pur (r = (sentF v f t s).1) (brd b (sentF v f t s).2)) :=
  tri_0 (call_board_Board_Sent _ _ _ _) fun w S R h => by
    unfold W_board_Board_Sent
    refine w_new h fun n1 w h => ?_
    refine w_ite (by simp) fun _ => ?_
    obtain ⟨sl, h⟩ := h.brd b
    have hlen := (h.rd (s := sl)).2
    refine w_deref (w_ld h rfl ?_)
    refine w_ite (fun hc => ?_) fun hc => ?_
    · have e1 : sentF v f t s = (1, v) := by simp at hc; simp [sentF, hc]
      rw [e1]
      exact Own.retP rfl (h.mkBrd b sl v.1 v.2).keep
    · refine w_deref (w_ld h rfl ?_)
      refine w_ite (fun hc2 => ?_) fun hc2 => ?_
      · have e1 : sentF v f t s = (5, v) := by
          simp at hc hc2
          rw [sentF, if_neg (by omega), if_pos (by omega)]
        rw [e1]
        exact Own.retP rfl (h.mkBrd b sl v.1 v.2).keep
      · have e1 : sentF v f t s = (0, (v.1 ++ [mkPc f t s], t)) := by
          simp at hc hc2
          rw [sentF, if_neg (by omega), if_neg (by omega)]
        rw [e1]
        refine w_drw h fun w h => ?_
        refine w_ld h rfl ?_
        refine w_deref (w_ld h rfl ?_)
        refine w_new h fun n9 w h => ?_
        refine w_chk h rfl ?_
        have h := h.blkArr n9 K_u6b3 [mkPc f t s] rfl (by simp)
        refine w_app h rfl (by simp at hc2 ⊢; omega) fun s10 w hl h => ?_
        refine w_deref (w_set h rfl fun w h => ?_)
        dsimp only [upd, over] at h
        refine w_deref (w_set h rfl fun w h => ?_)
        dsimp only [upd, over] at h
        exact Own.retP rfl (h.mkBrd b s10 (v.1 ++ [mkPc f t s]) t).keep
theorem rg_index_tri (s : Sl) (f : Fv) (C : SP) (xs : List (Ks.T KR)) (p : Ks.T KR → Bool) (hl : xs.length ≤ 4294967296) (hf : ∀ x ∈ xs, TriV Try.prog f [.agg (Ks.mk KR x)] [.lf .bool] C (fun r => pur (r = p x) C)) :
    Tri Try.prog 79 [.lf (.sl s), .lf (.fn f)] [.lf (.int .i64)] (C ^ rarr s KR xs) (fun r => pur (r = fI p xs) C) :=
  tri_0 (call_slices_IndexFunc_sapiRangeapiRange _ _) fun w S R h => by
    unfold W_slices_IndexFunc_sapiRangeapiRange
    have hsl := (h.rd (s := s)).2
    refine w_loop (fun _ => C ^ rarr s KR xs) (fun (y : Int) => 0 ≤ y ∧ y.toNat ≤ xs.length ∧ ∀ j y', j < y.toNat → xs[j]? = some y' → p y' = false) (fun (y : Int) => xs.length - y.toNat) h ⟨Int.le_refl 0, by simp, fun j _ hj => by simp at hj⟩ ?_
    rintro (y : Int) w ⟨h0, h1, h2⟩ h
    refine w_ite (fun c => ?_) fun c => ?_
    · have hy : y.toNat < xs.length := by simp at c; omega
      refine w_idx h h0 hy ?_
      refine w_ldA h s y.toNat 0 _ (at_some hy) rfl (by decide) (un_mk (ks := KR)) ?_
      refine w_callv (hf _ (List.getElem_mem hy)) h fun r w h => ?_
      obtain ⟨hr, h⟩ := h.purP
      have hw : IntKind.i64.wrap (y + 1) = y + 1 := wi (by omega) (by omega)
      refine w_ite (fun c => ?_) fun c => ?_
      · refine Own.retP ?_ h.fin
        rw [fI_at (at_some hy) (by rw [← hr]; exact c) h2]; exact (Int.toNat_of_nonneg h0).symm
      · rw [hw]
        refine ⟨⟨⟨(by show (0 : Int) ≤ y + 1; omega), (by show (y + 1).toNat ≤ _; omega), fun j y' hj hy' => ?_⟩, h⟩, (by show _ - (y + 1).toNat < _; omega)⟩
        have hj : j < (y + 1).toNat := hj
        by_cases hjy : j = y.toNat
        · subst hjy
          rw [at_some hy] at hy'
          cases hy'
          rw [← hr]; exact c
        · exact h2 j y' (by omega) hy'
    · refine Own.retP ?_ h.fin
      rw [fI_none]
      intro x hx
      obtain ⟨j, hj, rfl⟩ := List.mem_iff_getElem.1 hx
      refine h2 j _ ?_ (at_some hj)
      simp at c; omega

theorem rg_contains_tri (s : Sl) (f : Fv) (C : SP) (xs : List (Ks.T KR)) (p : Ks.T KR → Bool) (hl : xs.length ≤ 4294967296) (hf : ∀ x ∈ xs, TriV Try.prog f [.agg (Ks.mk KR x)] [.lf .bool] C (fun r => pur (r = p x) C)) :
    Tri Try.prog 70 [.lf (.sl s), .lf (.fn f)] [.lf .bool] (C ^ rarr s KR xs) (fun r => pur (r = xs.any p) C) :=
  tri_0 (call_slices_ContainsFunc_sapiRangeapiRange _ _) fun w S R h => by
    unfold W_slices_ContainsFunc_sapiRangeapiRange
    refine w_call (rg_index_tri s f C xs p hl hf) h fun r w h => ?_
    obtain ⟨hr, h⟩ := h.purP
    rw [hr]
    exact Own.retP (fI_any p xs) h.keep

def mkAll (n : Nat) : Fv := .mk (.func 49) [] [V1.enc (.lf (.ptr (some ⟨n, 0⟩)))]
theorem all_tri (b : Nat) : Tri Try.prog 19 [.lf (.ptr (some ⟨b, 0⟩))] [.lf .fn] emp (fun f => ex fun n => pur (f = mkAll n) (blk n [.ptr (some ⟨b, 0⟩)])) :=
  tri_0 (call_board_Board_All _) fun w S R h => by
    unfold W_board_Board_All
    refine w_new h fun n1 w h => ?_
    exact Own.retE n1 (Own.retP rfl h.keep)
theorem all_iter (n b : Nat) (v : List Pc × Int) (hl : v.1.length ≤ 4294967296) : Iter Try.prog (mkAll n) (blk n [.ptr (some ⟨b, 0⟩)] ^ brd b v) [.agg K_u6b3] v.1 := by
  intro y I D hy
  refine Tri.g (f := 49) (args := [.lf (.fn y)]) (caps := [.lf (.ptr (some ⟨n, 0⟩))]) (tri_0 (call_board_Board_All_c1 y ⟨n, 0⟩) fun w S R h => ?_)
  unfold W_board_Board_All_c1
  refine w_ld h rfl ?_
  refine w_ite (fun c => (by cases c)) fun c => ?_
  refine w_ld h rfl ?_
  obtain ⟨s, h⟩ := h.brd b
  have hs := (h.rd (s := s)).2
  refine w_deref (w_ld h rfl ?_)
  have h : Own _ _ _ _ (blk b [.sl s, .int .u64 v.2] ^ arr s K_u6b3 v.1 ^ blk n [.ptr (some ⟨b, 0⟩)] ^ I 0) := h.fin
  refine w_loop (fun (y : Int) => blk b [.sl s, .int .u64 v.2] ^ arr s K_u6b3 v.1 ^ blk n [.ptr (some ⟨b, 0⟩)] ^ I y.toNat) (fun (y : Int) => 0 ≤ y ∧ y.toNat ≤ v.1.length) (fun (y : Int) => v.1.length - y.toNat) h ⟨Int.le_refl 0, by simp⟩ ?_
  rintro (i : Int) w ⟨h0, h1⟩ h
  refine w_ite (fun c => ?_) fun c => ?_
  · have hi : i.toNat < v.1.length := by simp at c; omega
    refine w_idx h h0 hi ?_
    refine w_ldE h s i.toNat (at_some hi) rfl ?_
    refine w_new h fun n9 w h => ?_
    refine w_setAll h (by rfl) fun w h => ?_
    refine w_ldAll h rfl ?_
    refine w_callv (hy i.toNat _ (at_some hi)) h fun r w h => ?_
    refine w_ite (fun c => ?_) fun c => ?_
    · have hr : r = false := by simpa using c
      rw [hr] at h
      have h : Own _ _ _ _ (D ^ _) := h
      have h := (h.eitherR (I v.1.length)).mkBrd b s v.1 v.2
      exact h.fin
    · have hr : r = true := by simpa using c
      rw [hr] at h
      have h : Own _ _ _ _ (I (i.toNat + 1) ^ _) := h
      rw [wi (by omega) (by omega)]
      have e : (i + 1).toNat = i.toNat + 1 := by omega
      refine ⟨⟨⟨(by show (0 : Int) ≤ i + 1; omega), (by show (i + 1).toNat ≤ _; omega)⟩, ?_⟩, (by show _ - (i + 1).toNat < _; omega)⟩
      show Own _ _ _ _ (blk b [.sl s, .int .u64 v.2] ^ arr s K_u6b3 v.1 ^ blk n [.ptr (some ⟨b, 0⟩)] ^ I (i + 1).toNat)
      rw [e]
      exact h.fin
  · have hi : i.toNat = v.1.length := by simp at c; omega
    rw [hi] at h
    have h := h.take (I v.1.length)
    have h := (h.eitherL D).mkBrd b s v.1 v.2
    exact h.fin

def takeN {α : Type} (xs : List α) (most : Int) : List α := xs.take (max 1 most.toNat)
theorem hall_tri (f : Fv) (C : SP) (xs : List Pc) (most : Int) (it : Iter Try.prog f C [.agg K_u6b3] xs) (hf : isNilF f = false) (hl : xs.length ≤ 4294967295) :
    Tri Try.prog 18 [.lf (.fn f), .lf (.int .i64 most)] [.lf .sl] C (fun s => C ^ arr s K_u6b3 (takeN xs most)) :=
  tri_0 (call_canterhelp_All_apiPiece f most) fun w S R h => by
    unfold W_canterhelp_All_apiPiece
    refine w_new h fun n1 w h => ?_
    refine w_new h fun n2 w h => ?_
    refine w_ite (fun c => by rw [hf] at c; cases c) fun c => ?_
    -- what is gathered
    have hy : ∀ i x, xs[i]? = some x → TriV Try.prog (.mk (.func 48) [] [V1.enc (.lf (.ptr (some ⟨n2, 0⟩))), V1.enc (.lf (.ptr (some ⟨n1, 0⟩)))]) (Rs.mk [.agg K_u6b3] x) [.lf .bool]
        (ex fun s => pur (i < max 1 most.toNat) (blk n2 [.sl s] ^ blk n1 [.int .i64 most] ^ arr s K_u6b3 (xs.take i)))
        (fun c => cond c (ex fun s => pur (i + 1 < max 1 most.toNat) (blk n2 [.sl s] ^ blk n1 [.int .i64 most] ^ arr s K_u6b3 (xs.take (i + 1)))) (ex fun s => blk n2 [.sl s] ^ arr s K_u6b3 (takeN xs most))) := by
      intro i x hx
      have hi : i < xs.length := (List.getElem?_eq_some_iff.1 hx).1
      refine (Tri.g (f := 48) (args := [.agg (Ks.mk K_u6b3 x)]) (caps := [.lf (.ptr (some ⟨n2, 0⟩)), .lf (.ptr (some ⟨n1, 0⟩))]) (tri_0 (call_canterhelp_All_apiPiece_c1 x ⟨n2, 0⟩ ⟨n1, 0⟩) fun w S R h => ?_)).v
      unfold W_canterhelp_All_apiPiece_c1
      refine w_new h fun m1 w h => ?_
      obtain ⟨s, h⟩ := (h.take (ex fun s => pur (i < max 1 most.toNat) (blk n2 [.sl s] ^ blk n1 [.int .i64 most] ^ arr s K_u6b3 (xs.take i)))).exP
      obtain ⟨hlt, h⟩ := h.purP
      refine w_ld h rfl ?_
      refine w_ldAll h rfl ?_
      refine w_new h fun m2 w h => ?_
      have h := h.blkArr m2 K_u6b3 [x] rfl (by simp)
      have htl : (xs.take i).length = i := by rw [List.length_take]; omega
      refine w_app h rfl (by rw [htl]; simp; omega) fun s5 w hs h => ?_
      refine w_set h rfl fun w h => ?_
      dsimp only [upd, over] at h
      refine w_ld h rfl ?_
      refine w_ld h rfl ?_
      have htk : xs.take i ++ [x] = xs.take (i + 1) := by rw [List.take_add_one, hx]; rfl
      rw [htl] at hs
      simp only [List.length_singleton] at hs
      rw [htk] at h
      by_cases hc : ((s5.len : Nat) : Int) < most
      · rw [decide_eq_true hc]
        exact Own.retE s5 (Own.retP (by omega) h.fin)
      · rw [decide_eq_false hc]
        have e : takeN xs most = xs.take (i + 1) := by rw [takeN]; congr 1; omega
        rw [e]
        exact Own.retE s5 h.fin
    have hit := (it _ _ _ hy).v
    have h := (h.nil K_u6b3).take (blk n2 [.sl ⟨none, 0, 0⟩] ^ blk n1 [.int .i64 most] ^ arr ⟨none, 0, 0⟩ K_u6b3 [])
    have h := h.toPur (p := 0 < max 1 most.toNat) (by omega)
    have h := h.toEx (f := fun s => pur (0 < max 1 most.toNat) (blk n2 [.sl s] ^ blk n1 [.int .i64 most] ^ arr s K_u6b3 (xs.take 0))) ⟨none, 0, 0⟩
    refine w_callv hit h fun r w h => ?_
    have h := h.take (either (ex fun s => pur (xs.length < max 1 most.toNat) (blk n2 [.sl s] ^ blk n1 [.int .i64 most] ^ arr s K_u6b3 (xs.take xs.length))) (ex fun s => blk n2 [.sl s] ^ arr s K_u6b3 (takeN xs most)))
    obtain ⟨b, h⟩ := h.exP
    cases b with
    | true =>
      have h : Own _ _ _ _ ((ex fun s => pur (xs.length < max 1 most.toNat) (blk n2 [.sl s] ^ blk n1 [.int .i64 most] ^ arr s K_u6b3 (xs.take xs.length))) ^ _) := h
      obtain ⟨s, h⟩ := h.exP
      obtain ⟨hlt, h⟩ := h.purP
      refine w_ld h rfl ?_
      have e : takeN xs most = xs.take xs.length := by rw [takeN, List.take_of_length_le (by omega), List.take_length]
      rw [e]
      exact h.fin
    | false =>
      have h : Own _ _ _ _ ((ex fun s => blk n2 [.sl s] ^ arr s K_u6b3 (takeN xs most)) ^ _) := h
      obtain ⟨s, h⟩ := h.exP
      refine w_ld h rfl ?_
      exact h.fin
abbrev pFrom (p : Pc) : Int := p.1
abbrev pTo (p : Pc) : Int := p.2.1
abbrev pSk (p : Pc) : Bool := p.2.2.2.2.2.2.2.1
abbrev pLo (p : Pc) : Bool := p.2.2.2.2.2.2.2.2
def flyP (p : Pc) : Bool := !pSk p && !pLo p
theorem flying_tri (p : Pc) : Tri Try.prog 47 [.agg (Ks.mk K_u6b3 p)] [.lf .bool] emp (fun r => pur (r = flyP p) emp) :=
  tri_0 (call_board_flying p) fun w S R h => by
    unfold W_board_flying
    refine w_new h fun n1 w h => ?_
    refine w_ld h rfl ?_
    refine w_ite (fun c => ?_) fun c => ?_
    · refine w_ld h rfl ?_
      refine Own.retP ?_ h.fin
      show (!pLo p) = flyP p
      have c : (!pSk p) = true := c
      simp [flyP, c]
    · refine Own.retP ?_ h.fin
      have c : (!pSk p) = false := c
      simp [flyP, c]
def addF (n : Int) (p : Pc) : Int := if flyP p then IntKind.u64.wrap (n + IntKind.u64.wrap (pTo p - pFrom p)) else n
def flightF (l : List Pc) : Int := l.foldl addF 0
theorem flight_take {l : List Pc} {i : Nat} {x : Pc} (h : l[i]? = some x) : flightF (l.take (i + 1)) = addF (flightF (l.take i)) x := by
  rw [List.take_add_one, h]; simp [flightF]
theorem flight_tri (b : Nat) (v : List Pc × Int) (hl : v.1.length ≤ 4294967296) : Tri Try.prog 17 [.lf (.ptr (some ⟨b, 0⟩))] [.lf (.int .u64)] (brd b v) (fun r => pur (r = flightF v.1) (brd b v)) :=
  tri_n (W := fun n R => W_board_Board_Flight n (some ⟨b, 0⟩) R) (call_board_Board_Flight _) fun w S R h => by
    unfold W_board_Board_Flight
    refine w_new h fun n1 w h => ?_
    refine w_set h rfl fun w h => ?_
    dsimp only [upd, over] at h
    refine w_call (all_tri b) (h.le (star_emp _)) fun f w h => ?_
    obtain ⟨n, h⟩ := h.exP
    obtain ⟨hf, h⟩ := h.purP
    rw [hf]
    have h := h.take (blk n1 [.int .u64 0])
    have h : Own _ _ _ _ (blk n1 [.int .u64 (flightF (v.1.take 0))] ^ _) := h
    refine w_range (all_iter n b v hl) (fun i => blk n1 [.int .u64 (flightF (v.1.take i))]) (fun _ => pur False emp) h ?_ ?_ ?_
    · intro i x hx w S R mid next jump rdy bsy hmid hnext hjump h
      refine w_new h fun n7 w h => ?_
      refine w_setAll h (by rfl) fun w h => ?_
      refine hmid h fun w h => ?_
      refine w_ldAll h rfl ?_
      refine w_call (flying_tri x) h fun r w h => ?_
      obtain ⟨hr, h⟩ := h.purP
      refine w_ite (fun c => ?_) fun c => ?_
      · refine w_ld h rfl ?_
        refine w_ld h rfl ?_
        refine w_ld h rfl ?_
        refine w_set h rfl fun w h => ?_
        dsimp only [upd, over] at h
        have e : flightF (v.1.take (i + 1)) = IntKind.u64.wrap (flightF (v.1.take i) + IntKind.u64.wrap (pTo x - pFrom x)) := by
          rw [flight_take hx, addF, if_pos (by rw [← hr]; exact c)]
        rw [← e] at h
        exact hnext h
      · have e : flightF (v.1.take (i + 1)) = flightF (v.1.take i) := by
          rw [flight_take hx, addF, if_neg (by rw [← hr, c]; simp)]
        rw [← e] at h
        exact hnext h
    · intro w h
      have h := h.take (blk n1 [.int .u64 (flightF (v.1.take v.1.length))])
      refine w_ld h rfl ?_
      refine w_leave h fun w h => ?_
      rw [List.take_length]
      exact Own.retP rfl h.fin
    · intro j w hj h
      exact (h.take (pur False emp)).purP.1.elim
def outF (e : Int) (r : Int × Int) : Bool := decide (r.2 > e) || decide (r.1 ≥ r.2)
theorem mayc_tri (r : Int × Int) (n b : Nat) (v : List Pc × Int) : Tri Try.prog 71 [.agg (Ks.mk KR r), .lf (.ptr (some ⟨n, 0⟩))] [.lf .bool] (blk n [.ptr (some ⟨b, 0⟩)] ^ brd b v) (fun x => pur (x = outF v.2 r) (blk n [.ptr (some ⟨b, 0⟩)] ^ brd b v)) :=
  tri_0 (call_board_Board_may_c1 r ⟨n, 0⟩) fun w S R h => by
    unfold W_board_Board_may_c1
    refine w_new h fun n1 w h => ?_
    refine w_drw h fun w h => ?_
    refine w_ld h rfl ?_
    refine w_ld h rfl ?_
    obtain ⟨s, h⟩ := h.brd b
    refine w_deref (w_ld h rfl ?_)
    have h := h.mkBrd b s v.1 v.2
    refine w_ite (fun c => ?_) fun c => ?_
    · refine Own.retP ?_ h.fin
      simp at c; simp [outF, c]
    · refine w_ld h rfl ?_
      refine w_ld h rfl ?_
      refine Own.retP ?_ h.fin
      simp at c; simp [outF]; intro; omega
def mayF (v : List Pc × Int) (upto : Int) (xs : List (Int × Int)) : Bool := decide (upto ≤ v.2) && !xs.any (outF v.2)
theorem may_tri (b : Nat) (v : List Pc × Int) (upto : Int) (s : Sl) (xs : List (Ks.T KR)) (hl : xs.length ≤ 4294967296) :
    Tri Try.prog 50 [.lf (.ptr (some ⟨b, 0⟩)), .lf (.int .u64 upto), .lf (.sl s)] [.lf .bool] (brd b v ^ rarr s KR xs) (fun x => pur (x = mayF v upto xs) (brd b v)) :=
  tri_0 (call_board_Board_may _ _ _) fun w S R h => by
    unfold W_board_Board_may
    refine w_new h fun n1 w h => ?_
    refine w_ld h rfl ?_
    obtain ⟨s', h⟩ := h.brd b
    refine w_deref (w_ld h rfl ?_)
    have h := h.mkBrd b s' v.1 v.2
    refine w_ite (fun c => ?_) fun c => ?_
    · refine w_call (rg_contains_tri s _ (blk n1 [.ptr (some ⟨b, 0⟩)] ^ brd b v) xs (outF v.2) hl (fun x _ => (Tri.g (f := 71) (args := [.agg (Ks.mk KR x)]) (caps := [.lf (.ptr (some ⟨n1, 0⟩))]) (mayc_tri x n1 b v)).v)) h fun r w h => ?_
      obtain ⟨hr, h⟩ := h.purP
      refine Own.retP ?_ h.fin
      simp at c; simp [mayF, c, hr]
    · refine Own.retP ?_ h.fin
      simp at c; simp [mayF]; intro; omega
def inF (p : Pc) (r : Int × Int) : Bool := decide (r.1 ≤ p.1) && decide (r.2 ≥ p.2.1)
theorem holdsc_tri (r : Int × Int) (n : Nat) (p : Pc) : Tri Try.prog 72 [.agg (Ks.mk KR r), .lf (.ptr (some ⟨n, 0⟩))] [.lf .bool] (blk n (Ks.mk K_u6b3 p)) (fun x => pur (x = inF p r) (blk n (Ks.mk K_u6b3 p))) :=
  tri_0 (call_board_holds_c1 r ⟨n, 0⟩) fun w S R h => by
    unfold W_board_holds_c1
    refine w_new h fun n1 w h => ?_
    refine w_ld h rfl ?_
    refine w_ld h rfl ?_
    refine w_ite (fun c => ?_) fun c => ?_
    · refine w_ld h rfl ?_
      refine w_ld h rfl ?_
      refine Own.retP ?_ h.fin
      simp at c; simp [inF, c]
    · refine Own.retP ?_ h.fin
      simp at c; simp [inF]; intro; omega
theorem holds_tri (p : Pc) (s : Sl) (xs : List (Ks.T KR)) (hl : xs.length ≤ 4294967296) :
    Tri Try.prog 51 [.lf (.sl s), .agg (Ks.mk K_u6b3 p)] [.lf .bool] (emp ^ rarr s KR xs) (fun x => pur (x = xs.any (inF p)) emp) :=
  tri_0 (call_board_holds _ _) fun w S R h => by
    unfold W_board_holds
    refine w_new h fun n1 w h => ?_
    refine w_call (rg_contains_tri s _ (blk n1 (Ks.mk K_u6b3 p)) xs (inF p) hl (fun x _ => (Tri.g (f := 72) (args := [.agg (Ks.mk KR x)]) (caps := [.lf (.ptr (some ⟨n1, 0⟩))]) (holdsc_tri x n1 p)).v)) h fun r w h => ?_
    obtain ⟨hr, h⟩ := h.purP
    exact Own.retP hr h.fin
def setLo (p : Pc) (x : Bool) : Pc := (p.1, p.2.1, p.2.2.1, p.2.2.2.1, p.2.2.2.2.1, p.2.2.2.2.2.1, p.2.2.2.2.2.2.1, p.2.2.2.2.2.2.2.1, x)
def abvF (p : Pc) (a : Int) : Int := if pSk p then IntKind.i64.wrap (a + 1) else a
def hitF (p : Pc) (a : Int) : Bool := flyP p && decide (abvF p a ≥ 3)
def passF : List Pc → List Pc × Int × Int
  | [] => ([], 0, 0)
  | p :: l => let r := passF l
    (if hitF p r.2.2 then setLo p true :: r.1 else p :: r.1, if hitF p r.2.2 then IntKind.u64.wrap (r.2.1 + IntKind.u64.wrap (p.2.1 - p.1)) else r.2.1, abvF p r.2.2)
theorem pass_len : ∀ l : List Pc, (passF l).1.length = l.length
  | [] => rfl
  | p :: l => by simp only [passF]; split <;> simp [pass_len l]
theorem drop_at {α : Type} {l : List α} {i : Nat} {x : α} (h : l[i]? = some x) : l.drop i = x :: l.drop (i + 1) := by
  obtain ⟨hl, he⟩ := List.getElem?_eq_some_iff.1 h
  rw [← he]; exact List.drop_eq_getElem_cons hl
theorem passed_tri (b : Nat) (v : List Pc × Int) (hl : v.1.length ≤ 4294967296) :
    Tri Try.prog 52 [.lf (.ptr (some ⟨b, 0⟩))] [.lf (.int .u64)] (brd b v) (fun x => pur (x = (passF v.1).2.1) (brd b ((passF v.1).1, v.2))) :=
  tri_0 (call_board_Board_passed _) fun w S R h => by
    unfold W_board_Board_passed
    obtain ⟨s, h⟩ := (h.le (star_emp _)).brd b
    have hs := (h.rd (s := s)).2
    refine w_deref (w_ld h rfl ?_)
    rw [wi (n := ((s.len : Nat) : Int) - 1) (by omega) (by omega)]
    have e0 : v.1.take (((s.len : Nat) : Int) - 1 + 1).toNat ++ (passF (v.1.drop (((s.len : Nat) : Int) - 1 + 1).toNat)).1 = v.1 := by
      have e : (((s.len : Nat) : Int) - 1 + 1).toNat = v.1.length := by omega
      rw [e]; simp [passF]
    have e1 : passF (v.1.drop (((s.len : Nat) : Int) - 1 + 1).toNat) = ([], 0, 0) := by
      have e : (((s.len : Nat) : Int) - 1 + 1).toNat = v.1.length := by omega
      rw [e]; simp [passF]
    have h := h.take (blk b [.sl s, .int .u64 v.2] ^ arr s K_u6b3 v.1)
    have h := h.keep
    refine w_loop (fun (y : Int × Int × Int) => blk b [.sl s, .int .u64 v.2] ^ arr s K_u6b3 (v.1.take (y.2.2 + 1).toNat ++ (passF (v.1.drop (y.2.2 + 1).toNat)).1))
      (fun (y : Int × Int × Int) => (-1 ≤ y.2.2 ∧ y.2.2 < v.1.length) ∧ y.1 = (passF (v.1.drop (y.2.2 + 1).toNat)).2.1 ∧ y.2.1 = (passF (v.1.drop (y.2.2 + 1).toNat)).2.2) (fun (y : Int × Int × Int) => (y.2.2 + 1).toNat) (by rw [e0]; exact h) ⟨⟨by show (-1 : Int) ≤ _ - 1; omega, by show ((s.len : Nat) : Int) - 1 < _; omega⟩, by rw [e1], by rw [e1]⟩ ?_
    rintro (⟨lost, above, i⟩ : Int × Int × Int) w ⟨⟨h0, h1⟩, h2, h3⟩ h
    dsimp only at h0 h1 h2 h3 h ⊢
    refine w_ite (fun c => ?_) fun c => ?_
    · have c : 0 ≤ i := by simpa using c
      obtain ⟨k, hk⟩ : ∃ k : Nat, i = k := ⟨i.toNat, by omega⟩
      have hk1 : (i + 1).toNat = k + 1 := by omega
      have hk0 : i.toNat = k := by omega
      have hkl : k < v.1.length := by omega
      rw [hk1] at h2 h3 h
      obtain ⟨p, hp⟩ : ∃ p, v.1[k]? = some p := ⟨_, at_some hkl⟩
      have hd := drop_at hp
      obtain ⟨xs, hxs⟩ : ∃ xs, xs = v.1.take (k + 1) ++ (passF (v.1.drop (k + 1))).1 := ⟨_, rfl⟩
      have hxk : xs[i.toNat]? = some p := by
        rw [hk0, hxs, List.getElem?_append_left (by rw [List.length_take]; omega), List.getElem?_take, if_pos (by omega), hp]
      have hxl : i.toNat < xs.length := (List.getElem?_eq_some_iff.1 hxk).1
      rw [← hxs] at h
      have hpass : passF (v.1.drop k) = (if hitF p above then setLo p true :: (passF (v.1.drop (k + 1))).1 else p :: (passF (v.1.drop (k + 1))).1, if hitF p above then IntKind.u64.wrap (lost + IntKind.u64.wrap (p.2.1 - p.1)) else lost, abvF p above) := by
        rw [hd, passF, h2, h3]
      refine w_deref (w_ld h rfl ?_)
      refine w_idx h c hxl ?_
      refine w_join h (fun _ => blk b [.sl s, .int .u64 v.2] ^ arr s K_u6b3 xs) (fun (y : Int) => y = abvF p above) (fun (y : Int) w hy h => ?_) ?_
      · refine w_deref (w_ldE h s i.toNat hxk rfl ?_)
        refine w_call (flying_tri p) h fun r w h => ?_
        obtain ⟨hr, h⟩ := h.purP
        have hw : IntKind.i64.wrap (i - 1) = i - 1 := wi (by omega) (by omega)
        have hhit : (r && decide (y ≥ 3)) = hitF p above := by rw [hr, hy]; rfl
        have hk2 : (i - 1 + 1).toNat = k := by omega
        have ht : v.1.take (k + 1) = v.1.take k ++ [p] := by rw [List.take_add_one, hp]; rfl
        have hlt : (v.1.take k).length = k := by rw [List.length_take]; omega
        refine w_ite (fun c2 => ?_) fun c2 => ?_
        · rw [hhit] at c2
          rw [c2] at hpass
          simp only [if_true] at hpass
          refine w_deref (w_stA h s i.toNat 8 p (setLo p true) hxk rfl (by decide) (by simp) rfl fun w h => ?_)
          have hset : xs.set i.toNat (setLo p true) = v.1.take k ++ (passF (v.1.drop k)).1 := by
            rw [hpass, hxs, hk0, ht, List.append_assoc, List.set_append_right _ _ (by omega), hlt]
            simp
          have hx2 : (xs.set i.toNat (setLo p true))[i.toNat]? = some (setLo p true) := by rw [List.getElem?_set_self hxl]
          refine w_drw h fun w h => ?_
          refine w_deref (w_deref ?_)
          refine w_ldA h s i.toNat 1 _ hx2 rfl (by decide) rfl ?_
          refine w_ldA h s i.toNat 0 _ hx2 rfl (by decide) rfl ?_
          rw [hw]
          refine ⟨⟨⟨⟨by show (-1 : Int) ≤ i - 1; omega, by show i - 1 < _; omega⟩, ?_, ?_⟩, ?_⟩, by show (i - 1 + 1).toNat < (i + 1).toNat; omega⟩
          · show _ = (passF (v.1.drop (i - 1 + 1).toNat)).2.1
            rw [hk2, hpass]; rfl
          · show y = (passF (v.1.drop (i - 1 + 1).toNat)).2.2
            rw [hk2, hpass]; exact hy
          · show Own _ _ _ _ (blk b [.sl s, .int .u64 v.2] ^ arr s K_u6b3 (v.1.take (i - 1 + 1).toNat ++ (passF (v.1.drop (i - 1 + 1).toNat)).1))
            rw [hk2, ← hset]
            exact h.fin
        · rw [hhit] at c2
          rw [c2] at hpass
          simp only [Bool.false_eq_true, if_false] at hpass
          rw [hw]
          have hsame : xs = v.1.take k ++ (passF (v.1.drop k)).1 := by rw [hpass, hxs, ht]; simp
          refine ⟨⟨⟨⟨by show (-1 : Int) ≤ i - 1; omega, by show i - 1 < _; omega⟩, ?_, ?_⟩, ?_⟩, by show (i - 1 + 1).toNat < (i + 1).toNat; omega⟩
          · show _ = (passF (v.1.drop (i - 1 + 1).toNat)).2.1
            rw [hk2, hpass]
          · show y = (passF (v.1.drop (i - 1 + 1).toNat)).2.2
            rw [hk2, hpass]; exact hy
          · show Own _ _ _ _ (blk b [.sl s, .int .u64 v.2] ^ arr s K_u6b3 (v.1.take (i - 1 + 1).toNat ++ (passF (v.1.drop (i - 1 + 1).toNat)).1))
            rw [hk2, ← hsame]
            exact h.fin
      · refine w_deref (w_ldA h s i.toNat 7 p hxk rfl (by decide) rfl ?_)
        refine w_ite (fun c2 => ?_) fun c2 => ?_
        · exact ⟨by have c2 : pSk p = true := c2; simp [abvF, c2], h⟩
        · exact ⟨by have c2 : pSk p = false := c2; simp [abvF, c2], h⟩
    · have c : i = -1 := by simp at c; omega
      rw [c] at h2 h3 h
      simp only [show ((-1 : Int) + 1).toNat = 0 from rfl, List.drop_zero, List.take_zero, List.nil_append] at h2 h
      refine Own.retP h2 ?_
      exact (h.mkBrd b s (passF v.1).1 v.2).fin
def setSk (p : Pc) : Pc := (p.1, p.2.1, p.2.2.1, p.2.2.2.1, p.2.2.2.2.1, p.2.2.2.2.2.1, p.2.2.2.2.2.2.1, true, false)
def toldP (upto : Int) (xs : List (Int × Int)) (p : Pc) : Bool := !pSk p && (decide (p.2.1 ≤ upto) || xs.any (inF p))
def markP (upto : Int) (xs : List (Int × Int)) (p : Pc) : Pc := if toldP upto xs p then setSk p else p
def toldL (upto : Int) (xs : List (Int × Int)) (l : List Pc) : List Pc := l.filter (toldP upto xs)
def restL (upto : Int) (xs : List (Int × Int)) (l : List Pc) : List Pc := (l.filter (fun p => !decide (p.2.1 ≤ upto))).map (markP upto xs)
theorem toldL_take {upto : Int} {xs : List (Int × Int)} {l : List Pc} {k : Nat} {p : Pc} (h : l[k]? = some p) : toldL upto xs (l.take (k + 1)) = toldL upto xs (l.take k) ++ (if toldP upto xs p then [p] else []) := by
  rw [List.take_add_one, h, toldL, List.filter_append, toldL]; congr 1
  simp [List.filter_cons]
theorem restL_take {upto : Int} {xs : List (Int × Int)} {l : List Pc} {k : Nat} {p : Pc} (h : l[k]? = some p) : restL upto xs (l.take (k + 1)) = restL upto xs (l.take k) ++ (if p.2.1 ≤ upto then [] else [markP upto xs p]) := by
  rw [List.take_add_one, h, restL, List.filter_append, List.map_append, restL]; congr 1
  by_cases hc : p.2.1 ≤ upto <;> simp [hc]
theorem toldL_len (upto : Int) (xs : List (Int × Int)) (l : List Pc) (k : Nat) : (toldL upto xs (l.take k)).length ≤ k := Nat.le_trans (List.length_filter_le _ _) (by rw [List.length_take]; omega)
theorem restL_len (upto : Int) (xs : List (Int × Int)) (l : List Pc) (k : Nat) : (restL upto xs (l.take k)).length ≤ k := by rw [restL, List.length_map]; exact Nat.le_trans (List.length_filter_le _ _) (by rw [List.length_take]; omega)
theorem ack_no_tri (b : Nat) (v : List Pc × Int) (upto : Int) (s : Sl) (xs : List (Ks.T KR)) (hx : xs.length ≤ 4294967296) (hm : mayF v upto xs = false) :
    Tri Try.prog 20 [.lf (.ptr (some ⟨b, 0⟩)), .lf (.int .u64 upto), .lf (.sl s)] [.lf .sl, .lf (.int .u64), .lf (.int .i64)] (brd b v ^ rarr s KR xs) (fun r => pur (r.2.1 = 0 ∧ r.2.2 = 11) (brd b v)) :=
  tri_0 (call_board_Board_Ack _ _ _) fun w S R h => by
    unfold W_board_Board_Ack
    refine w_ite (fun c => (by cases c)) fun c => ?_
    refine w_callL (may_tri b v upto s xs hx) h fun r w h => ?_
    obtain ⟨hr, h⟩ := h.purP
    refine w_ite (fun c => ?_) fun c => ?_
    · exact Own.retP ⟨rfl, rfl⟩ h.fin
    · rw [hr, hm] at c; cases c
theorem ack_tri (b : Nat) (v : List Pc × Int) (upto : Int) (a : Sl) (xs : List (Ks.T KR)) (hl : v.1.length ≤ 4294967295) (hx : xs.length ≤ 4294967296) (hm : mayF v upto xs = true) :
    Tri Try.prog 20 [.lf (.ptr (some ⟨b, 0⟩)), .lf (.int .u64 upto), .lf (.sl a)] [.lf .sl, .lf (.int .u64), .lf (.int .i64)] (brd b v ^ rarr a KR xs)
      (fun r => pur (r.2.1 = (passF (restL upto xs v.1)).2.1 ∧ r.2.2 = 0) (arr r.1 K_u6b3 (toldL upto xs v.1) ^ brd b ((passF (restL upto xs v.1)).1, v.2))) :=
  tri_0 (call_board_Board_Ack _ _ _) fun w S R h => by
    unfold W_board_Board_Ack
    refine w_ite (fun c => (by cases c)) fun c => ?_
    refine w_callL (Q := rarr a KR xs) (may_tri b v upto a xs hx) h fun r w h => ?_
    obtain ⟨hr, h⟩ := h.purP
    refine w_ite (fun c => by rw [hr, hm] at c; cases c) fun c => ?_
    obtain ⟨s, h⟩ := h.brd b
    have hs := (h.rd (s := s)).2
    refine w_deref (w_ld h rfl ?_)
    have h := (h.nil K_u6b3)
    have h := (h.nil K_u6b3)
    have h := (h.take (blk b [.sl s, .int .u64 v.2] ^ arr s K_u6b3 v.1 ^ arr ⟨none, 0, 0⟩ K_u6b3 [] ^ arr ⟨none, 0, 0⟩ K_u6b3 [] ^ rarr a KR xs)).keep
    refine w_loop (fun (y : Sl × Sl × Int) => blk b [.sl s, .int .u64 v.2] ^ arr s K_u6b3 v.1 ^ arr y.1 K_u6b3 (toldL upto xs (v.1.take y.2.2.toNat)) ^ arr y.2.1 K_u6b3 (restL upto xs (v.1.take y.2.2.toNat)) ^ rarr a KR xs)
      (fun (y : Sl × Sl × Int) => 0 ≤ y.2.2 ∧ y.2.2.toNat ≤ v.1.length) (fun (y : Sl × Sl × Int) => v.1.length - y.2.2.toNat) h ⟨Int.le_refl 0, Nat.zero_le _⟩ ?_
    rintro (⟨ts, rs, i⟩ : Sl × Sl × Int) w ⟨h0, h1⟩ h
    dsimp only at h0 h1 h ⊢
    refine w_ite (fun c => ?_) fun c => ?_
    · have hi : i.toNat < v.1.length := by simp at c; omega
      obtain ⟨p, hp⟩ : ∃ p, v.1[i.toNat]? = some p := ⟨_, at_some hi⟩
      have ht := toldL_take (upto := upto) (xs := xs) hp
      have hrt := restL_take (upto := upto) (xs := xs) hp
      have hw : IntKind.i64.wrap (i + 1) = i + 1 := wi (by omega) (by omega)
      have hi1 : (i + 1).toNat = i.toNat + 1 := by omega
      refine w_idx h h0 hi ?_
      refine w_ldE h s i.toNat hp rfl ?_
      refine w_new h fun n8 w h => ?_
      refine w_setAll h (by rfl) fun w h => ?_
      refine w_ld h rfl ?_
      refine w_join h (fun (y : Sl) => blk n8 (Ks.mk K_u6b3 (markP upto xs p)) ^ blk b [.sl s, .int .u64 v.2] ^ arr s K_u6b3 v.1 ^ arr y K_u6b3 (toldL upto xs (v.1.take (i.toNat + 1))) ^ arr rs K_u6b3 (restL upto xs (v.1.take i.toNat)) ^ rarr a KR xs) (fun _ => True) (fun (y : Sl) w _ h => ?_) ?_
      · refine w_ite (fun c2 => ?_) fun c2 => ?_
        · have c2 : p.2.1 ≤ upto := by simpa using c2
          rw [hw]
          rw [if_pos c2, List.append_nil] at hrt
          refine ⟨⟨⟨by show (0 : Int) ≤ i + 1; omega, by show (i + 1).toNat ≤ _; omega⟩, ?_⟩, by show _ - (i + 1).toNat < _; omega⟩
          show Own _ _ _ _ (blk b [.sl s, .int .u64 v.2] ^ arr s K_u6b3 v.1 ^ arr y K_u6b3 (toldL upto xs (v.1.take (i + 1).toNat)) ^ arr rs K_u6b3 (restL upto xs (v.1.take (i + 1).toNat)) ^ rarr a KR xs)
          rw [hi1, hrt]
          exact h.fin
        · have c2 : ¬ p.2.1 ≤ upto := by simpa using c2
          rw [if_neg c2] at hrt
          refine w_ldAll h rfl ?_
          refine w_new h fun n21 w h => ?_
          have h := h.blkArr n21 K_u6b3 [markP upto xs p] rfl (by simp)
          have hlr := restL_len upto xs v.1 i.toNat
          refine w_app (K := K_u6b3) h rfl (by simp; omega) fun s22 w hl2 h => ?_
          rw [hw]
          refine ⟨⟨⟨by show (0 : Int) ≤ i + 1; omega, by show (i + 1).toNat ≤ _; omega⟩, ?_⟩, by show _ - (i + 1).toNat < _; omega⟩
          show Own _ _ _ _ (blk b [.sl s, .int .u64 v.2] ^ arr s K_u6b3 v.1 ^ arr y K_u6b3 (toldL upto xs (v.1.take (i + 1).toNat)) ^ arr s22 K_u6b3 (restL upto xs (v.1.take (i + 1).toNat)) ^ rarr a KR xs)
          rw [hi1, hrt]
          exact h.fin
      · refine w_join h (fun _ => blk n8 (Ks.mk K_u6b3 p) ^ blk b [.sl s, .int .u64 v.2] ^ arr s K_u6b3 v.1 ^ arr ts K_u6b3 (toldL upto xs (v.1.take i.toNat)) ^ arr rs K_u6b3 (restL upto xs (v.1.take i.toNat)) ^ rarr a KR xs) (fun (y : Bool) => y = toldP upto xs p) (fun (y : Bool) w hy h => ?_) ?_
        · refine w_ite (fun c2 => ?_) fun c2 => ?_
          · rw [c2] at hy
            rw [← hy, if_pos rfl] at ht
            have hmk : markP upto xs p = setSk p := by rw [markP, ← hy]; rfl
            refine w_ldAll h rfl ?_
            refine w_new h fun n18 w h => ?_
            have h := h.blkArr n18 K_u6b3 [p] rfl (by simp)
            have hlr := toldL_len upto xs v.1 i.toNat
            refine w_app (K := K_u6b3) h rfl (by simp; omega) fun s19 w hl2 h => ?_
            refine w_set h rfl fun w h => ?_
            refine w_set h rfl fun w h => ?_
            refine ⟨trivial, ?_⟩
            rw [ht, hmk]
            have h : Own _ _ _ _ (blk n8 (Ks.mk K_u6b3 (setSk p)) ^ _) := h
            exact h.fin
          · rw [c2] at hy
            rw [← hy] at ht
            have hmk : markP upto xs p = p := by rw [markP, ← hy]; rfl
            refine ⟨trivial, ?_⟩
            rw [ht, hmk]
            simp only [Bool.false_eq_true, if_false, List.append_nil]
            exact h.fin
        · refine w_ld h rfl ?_
          refine w_ite (fun c2 => ?_) fun c2 => ?_
          · have c2 : (!pSk p) = true := c2
            refine w_ite (fun c3 => ?_) fun c3 => ?_
            · exact ⟨by have c3 : decide (p.2.1 ≤ upto) = true := c3; simp [toldP, c2, c3], h.fin⟩
            · refine w_ldAll h rfl ?_
              refine w_callL (A := emp) (Q := rarr a KR xs) (holds_tri p a xs hx) h fun r w h => ?_
              obtain ⟨hr2, h⟩ := h.purP
              exact ⟨by have c3 : decide (p.2.1 ≤ upto) = false := c3; rw [hr2, toldP, c2, c3]; simp, h.fin⟩
          · exact ⟨by have c2 : (!pSk p) = false := c2; simp [toldP, c2], h.fin⟩
    · have hi : i.toNat = v.1.length := by simp at c; omega
      rw [hi, List.take_length] at h
      refine w_deref (w_set h rfl fun w h => ?_)
      dsimp only [upd, over] at h
      have h := h.mkBrd b rs (restL upto xs v.1) v.2
      have hrl : (restL upto xs v.1).length ≤ 4294967296 := by
        have := restL_len upto xs v.1 v.1.length
        rw [List.take_length] at this; omega
      refine w_call (passed_tri b (restL upto xs v.1, v.2) hrl) h fun r w h => ?_
      obtain ⟨hr2, h⟩ := h.purP
      exact Own.retP ⟨hr2, rfl⟩ h.fin
theorem pc_one_tri (x : Pc) : Tri Try.prog 54 [.agg (Ks.mk K_u6b3 x), .agg (Ks.mk K_u6b3 x)] [.lf .bool] emp (fun r => pur (r = true) emp) :=
  tri_0 (call_canterhelp_Plain_apiPiece_c1 x x) fun w S R h => by
    unfold W_canterhelp_Plain_apiPiece_c1
    refine w_new h fun n1 w h => ?_
    refine w_new h fun n2 w h => ?_
    refine w_ldAll h rfl ?_
    refine w_ldAll h rfl ?_
    exact Own.retP (by simp) h.fin
theorem pc_same_tri (a b : Sl) (one : Fv) (xs : List (Ks.T K_u6b3)) (hl : xs.length ≤ 4294967296) (hf : ∀ x ∈ xs, TriV Try.prog one [.agg (Ks.mk K_u6b3 x), .agg (Ks.mk K_u6b3 x)] [.lf .bool] emp (fun r => pur (r = true) emp)) :
    Tri Try.prog 53 [.lf (.sl a), .lf (.sl b), .lf (.fn one)] [.lf .bool] (emp ^ rarr a K_u6b3 xs ^ rarr b K_u6b3 xs) (fun r => pur (r = true) emp) :=
  tri_0 (call_canterhelp_Same_apiPiece _ _ _) fun w S R h => by
    unfold W_canterhelp_Same_apiPiece
    have ha := (h.rd (s := a)).2
    have hb := ((h.take (rarr b K_u6b3 xs)).rd (s := b)).2
    have h := h.drop
    refine w_ite (fun c => ?_) fun c => ?_
    · rw [ha, hb] at c; simp at c
    · refine w_loop (fun _ => rarr a K_u6b3 xs ^ rarr b K_u6b3 xs) (fun (y : Int) => 0 ≤ y ∧ y.toNat ≤ xs.length) (fun (y : Int) => xs.length - y.toNat) h ⟨Int.le_refl 0, Nat.zero_le _⟩ ?_
      rintro (i : Int) w ⟨h0, h1⟩ h
      refine w_ite (fun c => ?_) fun c => ?_
      · have hi : i.toNat < xs.length := by simp at c; omega
        refine w_drw h fun w h => ?_
        refine w_idx h h0 hi ?_
        have hb' := h.le (star_comm _ _)
        refine w_idx hb' h0 hi ?_
        refine w_ldE h a i.toNat (at_some hi) rfl ?_
        refine w_ldE hb' b i.toNat (at_some hi) rfl ?_
        refine w_callv (hf _ (List.getElem_mem hi)) h fun r w h => ?_
        obtain ⟨hr, h⟩ := h.purP
        refine w_ite (fun c => by rw [hr] at c; cases c) fun c => ?_
        rw [wi (by omega) (by omega)]
        exact ⟨⟨⟨by show (0 : Int) ≤ i + 1; omega, by show (i + 1).toNat ≤ _; omega⟩, h.fin⟩, by show _ - (i + 1).toNat < _; omega⟩
      · exact Own.retP rfl h.fin
theorem pc_plain_tri (a b : Sl) (xs : List (Ks.T K_u6b3)) (hl : xs.length ≤ 4294967296) :
    Tri Try.prog 21 [.lf (.sl a), .lf (.sl b)] [.lf .bool] (emp ^ rarr a K_u6b3 xs ^ rarr b K_u6b3 xs) (fun r => pur (r = true) emp) :=
  tri_0 (call_canterhelp_Plain_apiPiece _ _) fun w S R h => by
    unfold W_canterhelp_Plain_apiPiece
    refine w_call (pc_same_tri a b (.mk (.func 54) [] []) xs hl (fun x _ => (Tri.g (f := 54) (args := [.agg (Ks.mk K_u6b3 x), .agg (Ks.mk K_u6b3 x)]) (caps := []) (pc_one_tri x)).v)) h fun r w h => ?_
    exact h.keep

abbrev s0 : Snt := (0, 0, 0, 0, false)
theorem awake_tri : Tri Try.prog 14 [] [.lf .bool] emp (fun r => pur (r = true) emp) :=
  tri_0 call_canterlaw24_awake fun w S R h => by
    unfold W_canterlaw24_awake
    refine w_call new_tri h fun r1 w h => ?_
    obtain ⟨b, h⟩ := h.exP
    obtain ⟨hr1, h⟩ := h.purP
    rw [hr1]
    refine w_join h (fun _ => brd b ([mkPc 0 10 s0], 10)) (fun (y : Bool) => y = false) (fun (y : Bool) w hy h => ?_) ?_
    · refine w_ite (fun c => by rw [hy] at c; cases c) fun c => ?_
      have hm : mayF ([mkPc 0 10 s0], 10) 10 [] = true := by rfl
      refine w_callL (A := brd b ([mkPc 0 10 s0], 10)) (Q := rarr ⟨none, 0, 0⟩ KR []) (ack_tri b _ 10 ⟨none, 0, 0⟩ [] (by decide) (by decide) hm) h fun r w h => ?_
      obtain ⟨hr, h⟩ := h.purP
      obtain ⟨e1, e2⟩ := hr
      have et : toldL 10 [] [mkPc 0 10 s0] = [mkPc 0 10 s0] := by rfl
      have er : restL 10 [] [mkPc 0 10 s0] = [] := by rfl
      dsimp only at h e1 e2
      rw [et, er] at h
      have hlen := (h.rd (s := r.1)).2
      have h : Own _ _ _ _ ((arr r.1 K_u6b3 [mkPc 0 10 s0] ^ brd b ([], 10)) ^ emp) := h
      have h := h.take (brd b ([], 10))
      refine w_ite (fun c => ?_) fun c => ?_
      · refine w_call (flight_tri b ([], 10) (by decide)) h fun r7 w h => ?_
        obtain ⟨hr7, h⟩ := h.purP
        refine w_ite (fun c => ?_) fun c => ?_
        · refine w_call (end_tri b ([], 10)) h fun r8 w h => ?_
          obtain ⟨hr8, h⟩ := h.purP
          refine w_ite (fun c => ?_) fun c => ?_
          · refine w_call (all_tri b) h fun f w h => ?_
            obtain ⟨n, h⟩ := h.exP
            obtain ⟨hf, h⟩ := h.purP
            rw [hf]
            refine w_call (hall_tri (mkAll n) (blk n [.ptr (some ⟨b, 0⟩)] ^ brd b ([], 10)) [] 9 (all_iter n b ([], 10) (by decide)) rfl (by decide)) h fun r10 w h => ?_
            have hl := (h.rd (s := r10)).2
            refine Own.retP ?_ h.emp'
            rw [hl]; rfl
          · rw [hr8] at c; cases c
        · rw [hr7] at c; cases c
      · rw [e2, hlen] at c; cases c
    · refine w_ite (fun c => (by cases c)) fun c => ?_
      refine w_call (sent_tri b 0 10 s0 ([], 0)) h fun r4 w h => ?_
      obtain ⟨hr4, h⟩ := h.purP
      have e : sentF ([], 0) 0 10 s0 = (0, ([mkPc 0 10 s0], 10)) := by rfl
      rw [e] at hr4 h
      refine w_ite (fun c => by rw [hr4] at c; cases c) fun c => ?_
      refine w_call (flight_tri b ([mkPc 0 10 s0], 10) (by decide)) h fun r5 w h => ?_
      obtain ⟨hr5, h⟩ := h.purP
      refine ⟨?_, h.fin⟩
      rw [hr5]; rfl

abbrev KI : Ks := [.int .i64]
def okV (n : Int) (v : List Pc × Int) : Prop := 0 ≤ v.2 ∧ v.2 ≤ n * 5000 ∧ v.1.length ≤ n.toNat
theorem refuses_tri (d : Sl) (sizes : List (Ks.T KI)) (o a : Int) (ho : 0 ≤ o) :
    Tri Try.prog 3 [.lf (.sl d), .lf (.int .u64 o), .lf (.int .i64 a)] [.lf .bool] (rarr d KI sizes) (fun r => pur (r = true) emp) :=
  tri_0 (call_canterlaw24_BoardRefuses _ _ _) fun w S R h => by
    unfold W_canterlaw24_BoardRefuses
    have hd := (h.rd (s := d)).2
    refine w_call new_tri h fun r1 w h => ?_
    obtain ⟨b, h⟩ := h.exP
    obtain ⟨hr1, h⟩ := h.purP
    rw [hr1]
    refine w_call awake_tri h fun r2 w h => ?_
    obtain ⟨hr2, h⟩ := h.purP
    rw [hr2]
    refine w_ite (fun c => (by cases c)) fun c => ?_
    have h := ((h.take (brd b ([], 0))).toPur (p := okV 0 ([], 0)) ⟨by decide, by decide, by decide⟩).toEx (f := fun v => pur (okV 0 v) (brd b v)) ([], 0)
    have h := (h.take ((ex fun v => pur (okV 0 v) (brd b v)) ^ rarr d KI sizes)).keep
    refine w_loop (fun (y : Int) => (ex fun v => pur (okV y v) (brd b v)) ^ rarr d KI sizes) (fun (y : Int) => 0 ≤ y ∧ y ≤ 20) (fun (y : Int) => (20 - y).toNat) h ⟨by decide, by decide⟩ ?_
    rintro (i : Int) w ⟨h0, h1⟩ h
    obtain ⟨v, h⟩ := h.exP
    obtain ⟨hv, h⟩ := h.purP
    obtain ⟨v0, v1, v2⟩ := hv
    refine w_ite (fun c => ?_) fun c => ?_
    · have hc : i < sizes.length ∧ i < 20 := by simp at c; omega
      have hi : i.toNat < sizes.length := by omega
      have hw : IntKind.i64.wrap (i + 1) = i + 1 := wi (by omega) (by omega)
      refine w_drw h fun w h => ?_
      refine w_idx h h0 hi ?_
      refine w_ldE h d i.toNat (at_some hi) rfl ?_
      refine w_call (end_tri b v) h fun r7 w h => ?_
      obtain ⟨hr7, h⟩ := h.purP
      refine w_chkA h d i.toNat 0 _ (at_some hi) rfl (by decide) rfl ?_
      refine w_call (end_tri b v) h fun r8 w h => ?_
      obtain ⟨hr8, h⟩ := h.purP
      refine w_chkA h d i.toNat 0 _ (at_some hi) rfl (by decide) rfl ?_
      rw [hr7, hr8]
      obtain ⟨z, hz⟩ : ∃ z, z = (IntKind.u64.wrap sizes[i.toNat]).tmod 5000 := ⟨_, rfl⟩
      have hz1 : 0 ≤ z ∧ z < 5000 := by
        have := wu_range sizes[i.toNat]
        rw [hz]
        exact ⟨Int.tmod_nonneg _ this.1, Int.tmod_lt_of_pos _ (by decide)⟩
      have ht : IntKind.u64.wrap (IntKind.u64.wrap (v.2 + 1) + z) = v.2 + 1 + z := by
        rw [wu (n := v.2 + 1) (by omega) (by omega), wu (by omega) (by omega)]
      rw [← hz, ht]
      refine w_call (sent_tri b v.2 (v.2 + 1 + z) (IntKind.u64.wrap i, 0, 0, 0, false) v) h fun r9 w h => ?_
      obtain ⟨hr9, h⟩ := h.purP
      have e : (sentF v v.2 (v.2 + 1 + z) (IntKind.u64.wrap i, 0, 0, 0, false)).2 = (v.1 ++ [mkPc v.2 (v.2 + 1 + z) (IntKind.u64.wrap i, 0, 0, 0, false)], v.2 + 1 + z) := by
        rw [sentF, if_neg (by omega), if_neg (by omega)]
      rw [e] at h
      rw [hw]
      have h := (h.toPur (p := okV (i + 1) (v.1 ++ [mkPc v.2 (v.2 + 1 + z) (IntKind.u64.wrap i, 0, 0, 0, false)], v.2 + 1 + z)) ⟨by show 0 ≤ v.2 + 1 + z; omega, by show v.2 + 1 + z ≤ _; omega, by simp; omega⟩).toEx (f := fun v => pur (okV (i + 1) v) (brd b v)) _
      exact ⟨⟨⟨by show (0 : Int) ≤ i + 1; omega, by show i + 1 ≤ (20 : Int); omega⟩, h.fin⟩, by show (20 - (i + 1)).toNat < (20 - i).toNat; omega⟩
    · refine w_call (end_tri b v) h fun r10 w h => ?_
      obtain ⟨hr10, h⟩ := h.purP
      refine w_call (flight_tri b v (by omega)) h fun r11 w h => ?_
      obtain ⟨hr11, h⟩ := h.purP
      refine w_call (all_tri b) h fun r12 w h => ?_
      obtain ⟨n, h⟩ := h.exP
      obtain ⟨hr12, h⟩ := h.purP
      rw [hr12]
      refine w_call (hall_tri (mkAll n) (blk n [.ptr (some ⟨b, 0⟩)] ^ brd b v) v.1 99 (all_iter n b v (by omega)) rfl (by omega)) h fun r13 w h => ?_
      have h := (h.take (brd b v ^ arr r13 K_u6b3 (takeN v.1 99))).keep
      obtain ⟨m, hm⟩ : ∃ m, m = o.tmod 1099511627776 := ⟨_, rfl⟩
      have hm1 : 0 ≤ m ∧ m < 1099511627776 := by
        rw [hm]; exact ⟨Int.tmod_nonneg _ ho, Int.tmod_lt_of_pos _ (by decide)⟩
      have hmore : IntKind.u64.wrap (IntKind.u64.wrap (r10 + 1) + m) = v.2 + 1 + m := by
        rw [hr10, wu (n := v.2 + 1) (by omega) (by omega), wu (by omega) (by omega)]
      rw [← hm, hmore]
      have hmore2 : IntKind.u64.wrap (v.2 + 1 + m + 1) = v.2 + 1 + m + 1 := wu (by omega) (by omega)
      rw [hr10]
      refine w_join h (fun _ => brd b v ^ arr r13 K_u6b3 (takeN v.1 99)) (fun (y : Int × Int) => y.1 = y.2) (fun (y : Int × Int) w hy h => ?_) ?_
      · refine w_ite (fun c => ?_) fun c => ?_
        · refine w_call (end_tri b v) h fun r23 w h => ?_
          obtain ⟨hr23, h⟩ := h.purP
          refine w_ite (fun c => ?_) fun c => by rw [hr23] at c; simp at c
          refine w_call (flight_tri b v (by omega)) h fun r24 w h => ?_
          obtain ⟨hr24, h⟩ := h.purP
          refine w_ite (fun c => ?_) fun c => by rw [hr24, hr11] at c; simp at c
          refine w_call (all_tri b) h fun r25 w h => ?_
          obtain ⟨n2, h⟩ := h.exP
          obtain ⟨hr25, h⟩ := h.purP
          rw [hr25]
          refine w_call (hall_tri (mkAll n2) (blk n2 [.ptr (some ⟨b, 0⟩)] ^ brd b v) v.1 99 (all_iter n2 b v (by omega)) rfl (by omega)) h fun r26 w h => ?_
          refine w_callL (A := emp) (Q := rarr r26 K_u6b3 (takeN v.1 99) ^ rarr r13 K_u6b3 (takeN v.1 99)) (pc_plain_tri r26 r13 (takeN v.1 99) (by rw [takeN, List.length_take]; omega)) h fun r27 w h => ?_
          obtain ⟨hr27, h⟩ := h.purP
          exact Own.retP hr27 h.keep
        · rw [hy] at c; simp at c
      · refine w_ite (fun c => ?_) fun c => ?_
        · refine w_callL (A := brd b v) (Q := rarr ⟨none, 0, 0⟩ KR []) (ack_no_tri b v (v.2 + 1 + m) ⟨none, 0, 0⟩ [] (by decide) (by simp [mayF]; omega)) h fun r16 w h => ?_
          obtain ⟨hr16, h⟩ := h.purP
          exact ⟨hr16.2, h.fin⟩
        · refine w_ite (fun c => ?_) fun c => ?_
          · refine w_new h fun n17 w h => ?_
            have h := h.blkArr n17 KR [(v.2, v.2 + 1 + m)] rfl (by simp)
            refine w_callL (A := brd b v) (Q := rarr ⟨some ⟨n17, 0⟩, 1, 1⟩ KR [(v.2, v.2 + 1 + m)]) (ack_no_tri b v 0 ⟨some ⟨n17, 0⟩, 1, 1⟩ [(v.2, v.2 + 1 + m)] (by simp) (by simp [mayF, outF]; try omega)) h fun r16 w h => ?_
            obtain ⟨hr16, h⟩ := h.purP
            exact ⟨hr16.2, h.fin⟩
          · refine w_ite (fun c => ?_) fun c => ?_
            · refine w_new h fun n17 w h => ?_
              have h := h.blkArr n17 KR [(o, if v.2 < o then v.2 else o)] rfl (by simp)
              refine w_callL (A := brd b v) (Q := rarr ⟨some ⟨n17, 0⟩, 1, 1⟩ KR [(o, if v.2 < o then v.2 else o)]) (ack_no_tri b v v.2 ⟨some ⟨n17, 0⟩, 1, 1⟩ [(o, if v.2 < o then v.2 else o)] (by simp) (by simp [mayF, outF]; intro; split <;> omega)) h fun r16 w h => ?_
              obtain ⟨hr16, h⟩ := h.purP
              exact ⟨hr16.2, h.fin⟩
            · refine w_ite (fun c => ?_) fun c => ?_
              · rw [hmore2]
                refine w_call (sent_tri b (v.2 + 1 + m) (v.2 + 1 + m + 1) s0 v) h fun r21 w h => ?_
                obtain ⟨hr21, h⟩ := h.purP
                have e : sentF v (v.2 + 1 + m) (v.2 + 1 + m + 1) s0 = (1, v) := by rw [sentF, if_pos (by omega)]
                rw [e] at hr21 h
                exact ⟨hr21, h.fin⟩
              · refine w_call (sent_tri b v.2 v.2 s0 v) h fun r22 w h => ?_
                obtain ⟨hr22, h⟩ := h.purP
                have e : sentF v v.2 v.2 s0 = (1, v) := by rw [sentF, if_pos (by omega)]
                rw [e] at hr22 h
                exact ⟨hr22, h.fin⟩
def pK (z : Int) (k : Nat) : Pc := mkPc ((k : Int) * z) (((k : Int) + 1) * z) ((k : Int), 0, 0, 0, false)
def LF (z : Int) (i : Int) : List Pc × Int := ((List.range i.toNat).map (pK z), i * z)
theorem LF_step {z i : Int} (hz : 0 < z) (h0 : 0 ≤ i) (h1 : i < 3) : sentF (LF z i) (i * z) ((i + 1) * z) (i, 0, 0, 0, false) = (0, LF z (i + 1)) := by
  have hi : ((i.toNat : Nat) : Int) = i := Int.toNat_of_nonneg h0
  have ht : (i + 1) * z = i * z + z := by rw [Int.add_mul, Int.one_mul]
  have hn : (i + 1).toNat = i.toNat + 1 := by omega
  rw [sentF, if_neg (by show ¬ (i * z ≠ i * z ∨ (i + 1) * z ≤ i * z); omega), if_neg (by simp [LF]; omega)]
  simp only [LF, hn, List.range_succ, List.map_append, List.map_cons, List.map_nil, pK, hi]
def c1 (z y : Int) : List (Int × Int) := [(z + 1, 2 * z + y), (2 * z + 1, 3 * z)]
def c2 (z y : Int) : List (Int × Int) := [(z, 2 * z + y)]
abbrev q1 (z : Int) : Pc := setSk (pK z 1)
theorem cuts_tri (d o : Int) (hd : 0 ≤ d) (ho : 0 ≤ o) : Tri Try.prog 4 [.lf (.int .u64 d), .lf (.int .u64 o)] [.lf .bool] emp (fun r => pur (r = true) emp) :=
  tri_0 (call_canterlaw24_BoardCuts _ _) fun w S R h => by
    unfold W_canterlaw24_BoardCuts
    obtain ⟨z, hz⟩ : ∃ z, z = IntKind.u64.wrap (3 + d.tmod 5000) := ⟨_, rfl⟩
    have hm := Int.tmod_nonneg 5000 hd
    have hm2 := Int.tmod_lt_of_pos d (show (0 : Int) < 5000 by decide)
    have hz1 : 3 ≤ z ∧ z ≤ 5002 := by rw [wu (by omega) (by omega)] at hz; omega
    rw [← hz]
    have hzm : IntKind.u64.wrap (z - 1) = z - 1 := wu (by omega) (by omega)
    rw [hzm]
    have hk := Int.tmod_nonneg (z - 1) ho
    have hk2 := Int.tmod_lt_of_pos o (show (0 : Int) < z - 1 by omega)
    obtain ⟨y, hy⟩ : ∃ y, y = IntKind.u64.wrap (1 + o.tmod (z - 1)) := ⟨_, rfl⟩
    have hy1 : 1 ≤ y ∧ y ≤ z - 1 := by rw [wu (by omega) (by omega)] at hy; omega
    rw [← hy]
    have e1 : IntKind.u64.wrap (z + 1) = z + 1 := wu (by omega) (by omega)
    have e2 : IntKind.u64.wrap (2 * z) = 2 * z := wu (by omega) (by omega)
    have e3 : IntKind.u64.wrap (2 * z + y) = 2 * z + y := wu (by omega) (by omega)
    have e4 : IntKind.u64.wrap (2 * z + 1) = 2 * z + 1 := wu (by omega) (by omega)
    have e5 : IntKind.u64.wrap (3 * z) = 3 * z := wu (by omega) (by omega)
    rw [e1, e2, e3, e4, e5]
    -- the pieces
    have L3 : LF z 3 = ([pK z 0, pK z 1, pK z 2], 3 * z) := rfl
    have f0 : pK z 0 = (0, z, 0, 0, 0, 0, false, false, false) := by simp [pK, mkPc]
    have f1 : pK z 1 = (z, 2 * z, 1, 0, 0, 0, false, false, false) := by simp [pK, mkPc]
    have f2 : pK z 2 = (2 * z, 3 * z, 2, 0, 0, 0, false, false, false) := by simp [pK, mkPc]
    have g1 : q1 z = (z, 2 * z, 1, 0, 0, 0, false, true, false) := by rw [q1, f1]; rfl
    have m1 : mayF (LF z 3) y (c1 z y) = true := by simp [L3, mayF, c1, outF]; omega
    have t10 : toldP y (c1 z y) (pK z 0) = false := by simp [f0, toldP, c1, inF, pSk]; omega
    have t11 : toldP y (c1 z y) (pK z 1) = false := by simp [f1, toldP, c1, inF, pSk]; omega
    have t12 : toldP y (c1 z y) (pK z 2) = false := by simp [f2, toldP, c1, inF, pSk]; omega
    have a1 : toldL y (c1 z y) (LF z 3).1 = [] := by simp [L3, toldL, t10, t11, t12]
    have b1 : restL y (c1 z y) (LF z 3).1 = (LF z 3).1 := by
      have n0 : ¬ (pK z 0).2.1 ≤ y := by rw [f0]; show ¬ z ≤ y; omega
      have n1 : ¬ (pK z 1).2.1 ≤ y := by rw [f1]; show ¬ 2 * z ≤ y; omega
      have n2 : ¬ (pK z 2).2.1 ≤ y := by rw [f2]; show ¬ 3 * z ≤ y; omega
      simp [L3, restL, n0, n1, n2, markP, t10, t11, t12]
    have pp1 : passF (LF z 3).1 = ((LF z 3).1, 0, 0) := by
      rw [L3, f0, f1, f2]; simp [passF, hitF, abvF, pSk]
    have m2 : mayF (LF z 3) y (c2 z y) = true := by simp [L3, mayF, c2, outF]; omega
    have t20 : toldP y (c2 z y) (pK z 0) = false := by simp [f0, toldP, c2, inF, pSk]; omega
    have t21 : toldP y (c2 z y) (pK z 1) = true := by simp [f1, toldP, c2, inF, pSk]; omega
    have t22 : toldP y (c2 z y) (pK z 2) = false := by simp [f2, toldP, c2, inF, pSk]; try omega
    have a2 : toldL y (c2 z y) (LF z 3).1 = [pK z 1] := by simp [L3, toldL, t20, t21, t22]
    have b2 : restL y (c2 z y) (LF z 3).1 = [pK z 0, q1 z, pK z 2] := by
      have n0 : ¬ (pK z 0).2.1 ≤ y := by rw [f0]; show ¬ z ≤ y; omega
      have n1 : ¬ (pK z 1).2.1 ≤ y := by rw [f1]; show ¬ 2 * z ≤ y; omega
      have n2 : ¬ (pK z 2).2.1 ≤ y := by rw [f2]; show ¬ 3 * z ≤ y; omega
      simp [L3, restL, n0, n1, n2, markP, t20, t21, t22]
    have pp2 : (passF [pK z 0, q1 z, pK z 2]).1 = [pK z 0, q1 z, pK z 2] := by
      rw [f0, g1, f2]; simp [passF, hitF, abvF, pSk, wi]
    have m3 : mayF ([pK z 0, q1 z, pK z 2], 3 * z) (2 * z + y) [] = true := by simp [mayF]; omega
    have a3 : toldL (2 * z + y) [] [pK z 0, q1 z, pK z 2] = [pK z 0] := by
      have n0 : toldP (2 * z + y) [] (pK z 0) = true := by
        have e : decide (z ≤ 2 * z + y) = true := decide_eq_true (by omega)
        rw [f0]
        show (!false && (decide (z ≤ 2 * z + y) || [].any _)) = true
        rw [e]; rfl
      have n1 : toldP (2 * z + y) [] (q1 z) = false := by rw [g1]; simp [toldP, pSk]
      have n2 : toldP (2 * z + y) [] (pK z 2) = false := by rw [f2]; simp [toldP, pSk]; omega
      simp [toldL, n0, n1, n2]
    have b3 : restL (2 * z + y) [] [pK z 0, q1 z, pK z 2] = [pK z 2] := by
      have n0 : (pK z 0).2.1 ≤ 2 * z + y := by rw [f0]; show z ≤ 2 * z + y; omega
      have n1 : (q1 z).2.1 ≤ 2 * z + y := by rw [g1]; show 2 * z ≤ 2 * z + y; omega
      have n2 : ¬ (pK z 2).2.1 ≤ 2 * z + y := by rw [f2]; show ¬ 3 * z ≤ 2 * z + y; omega
      have t : toldP (2 * z + y) [] (pK z 2) = false := by rw [f2]; simp [toldP, pSk]; omega
      simp [restL, n0, n1, n2, markP, t]
    have pp3 : (passF [pK z 2]).1 = [pK z 2] := by rw [f2]; simp [passF, hitF, abvF, pSk]
    have fl3 : flightF (LF z 3).1 = 3 * z := by
      rw [L3, f0, f1, f2]
      simp [flightF, addF, flyP, pSk, pLo, pTo, pFrom]
      rw [wu (n := z) (by omega) (by omega), wu (n := 2 * z - z) (by omega) (by omega), wu (n := 3 * z - 2 * z) (by omega) (by omega), wu (n := z) (by omega) (by omega), wu (n := z + (2 * z - z)) (by omega) (by omega), wu (by omega) (by omega)]
      omega
    have fl4 : flightF [pK z 2] = z := by
      rw [f2]; simp [flightF, addF, flyP, pSk, pLo, pTo, pFrom]
      rw [wu (n := 3 * z - 2 * z) (by omega) (by omega), wu (by omega) (by omega)]; omega
    refine ⟨by omega, ?_⟩
    refine w_call new_tri h fun r1 w h => ?_
    obtain ⟨b, h⟩ := h.exP
    obtain ⟨hr1, h⟩ := h.purP
    rw [hr1]
    refine w_call awake_tri h fun r2 w h => ?_
    obtain ⟨hr2, h⟩ := h.purP
    rw [hr2]
    refine w_ite (fun c => (by cases c)) fun c => ?_
    have h := (h.take (brd b ([], 0))).keep
    have hL0 : LF z 0 = ([], 0) := by simp [LF]
    rw [← hL0] at h
    refine w_loop (fun (i : Int) => brd b (LF z i)) (fun (i : Int) => 0 ≤ i ∧ i ≤ 3) (fun (i : Int) => (3 - i).toNat) h ⟨by decide, by decide⟩ ?_
    rintro (i : Int) w ⟨h0, h1⟩ h
    refine w_ite (fun c => ?_) fun c => ?_
    · have hi : i < 3 := by simpa using c
      have hb : (0 ≤ i * z ∧ i * z ≤ 15006) ∧ 0 ≤ (i + 1) * z ∧ (i + 1) * z ≤ 15006 := by
        have : i = 0 ∨ i = 1 ∨ i = 2 := by omega
        rcases this with e | e | e <;> rw [e] <;> omega
      rw [wu (n := i * z) (by omega) (by omega), wu (n := i + 1) (by omega) (by omega), wu (n := (i + 1) * z) (by omega) (by omega)]
      refine w_call (sent_tri b (i * z) ((i + 1) * z) (i, 0, 0, 0, false) (LF z i)) h fun r w h => ?_
      obtain ⟨hr, h⟩ := h.purP
      rw [LF_step (by omega) h0 hi] at h
      exact ⟨⟨⟨by show (0 : Int) ≤ i + 1; omega, by show i + 1 ≤ (3 : Int); omega⟩, h.fin⟩, by show (3 - (i + 1)).toNat < (3 - i).toNat; omega⟩
    · have hi : i = 3 := by simp at c; omega
      rw [hi] at h
      have hll : (LF z 3).1.length = 3 := rfl
      refine w_call (all_tri b) h fun r6 w h => ?_
      obtain ⟨n, h⟩ := h.exP
      obtain ⟨hr6, h⟩ := h.purP
      rw [hr6]
      refine w_call (hall_tri (mkAll n) (blk n [.ptr (some ⟨b, 0⟩)] ^ brd b (LF z 3)) (LF z 3).1 9 (all_iter n b (LF z 3) (by omega)) rfl (by omega)) h fun r7 w h => ?_
      have h9 : takeN (LF z 3).1 9 = (LF z 3).1 := by rfl
      rw [h9] at h
      have h := (h.take (brd b (LF z 3) ^ arr r7 K_u6b3 (LF z 3).1)).keep
      refine w_new h fun n8 w h => ?_
      have h := h.blkArr n8 KR (c1 z y) rfl (by simp [c1])
      have h : Own _ _ _ _ (arr ⟨some ⟨n8, 0⟩, 2, 2⟩ KR (c1 z y) ^ _) := h
      have tr1 := ack_tri b (LF z 3) y ⟨some ⟨n8, 0⟩, 2, 2⟩ (c1 z y) (by omega) (by simp [c1]) m1
      rw [a1, b1, pp1] at tr1
      refine w_callL (A := brd b (LF z 3)) (Q := rarr ⟨some ⟨n8, 0⟩, 2, 2⟩ KR (c1 z y)) tr1 h fun r9 w h => ?_
      obtain ⟨hr9, h⟩ := h.purP
      have hlen := (h.rd (s := r9.1)).2
      have h : Own _ _ _ _ ((arr r9.1 K_u6b3 [] ^ brd b (LF z 3)) ^ _) := h
      have h := (h.take (brd b (LF z 3) ^ arr r7 K_u6b3 (LF z 3).1)).keep
      refine w_join h (fun _ => brd b (LF z 3) ^ arr r7 K_u6b3 (LF z 3).1) (fun (x : Bool) => x = false) (fun (x : Bool) w hx h => ?_) ?_
      · refine w_ite (fun c => by rw [hx] at c; cases c) fun c => ?_
        refine w_new h fun n16 w h => ?_
        have h := h.blkArr n16 KR (c2 z y) rfl (by simp [c2])
        have h : Own _ _ _ _ (arr ⟨some ⟨n16, 0⟩, 1, 1⟩ KR (c2 z y) ^ _) := h
        have tr2 := ack_tri b (LF z 3) y ⟨some ⟨n16, 0⟩, 1, 1⟩ (c2 z y) (by omega) (by simp [c2]) m2
        rw [a2, b2, pp2] at tr2
        refine w_callL (A := brd b (LF z 3)) (Q := rarr ⟨some ⟨n16, 0⟩, 1, 1⟩ KR (c2 z y)) tr2 h fun r17 w h => ?_
        obtain ⟨hr17, h⟩ := h.purP
        have h : Own _ _ _ _ ((arr r17.1 K_u6b3 [pK z 1] ^ brd b ([pK z 0, q1 z, pK z 2], 3 * z)) ^ _) := h
        have h := (h.take (brd b ([pK z 0, q1 z, pK z 2], 3 * z) ^ arr r7 K_u6b3 (LF z 3).1 ^ arr r17.1 K_u6b3 [pK z 1])).keep
        have tr3 := ack_tri b ([pK z 0, q1 z, pK z 2], 3 * z) (2 * z + y) ⟨none, 0, 0⟩ [] (by simp) (by simp) m3
        dsimp only at tr3
        rw [a3, b3, pp3] at tr3
        refine w_callL (A := brd b ([pK z 0, q1 z, pK z 2], 3 * z)) (Q := rarr ⟨none, 0, 0⟩ KR []) tr3 h fun r18 w h => ?_
        obtain ⟨hr18, h⟩ := h.purP
        have hl17 := ((h.take (arr r17.1 K_u6b3 [pK z 1])).rd (s := r17.1)).2
        have hl18 := (h.rd (s := r18.1)).2
        refine w_drw h fun w h => ?_
        refine w_ite (fun c => ?_) fun c => by rw [hr17.2] at c; cases c
        refine w_ite (fun c => ?_) fun c => by rw [hl17] at c; cases c
        have h17 := h.take (arr r17.1 K_u6b3 [pK z 1])
        have h7 := h.take (arr r7 K_u6b3 (LF z 3).1)
        refine w_idx (s := r17.1) h17 (by decide) (by show 0 < 1; decide) ?_
        refine w_idx (s := r7) h7 (by decide) (by show 1 < 3; decide) ?_
        refine w_ldE h17 r17.1 0 (y := pK z 1) rfl rfl ?_
        refine w_ldE h7 r7 1 (y := pK z 1) rfl rfl ?_
        refine w_ite (fun c => ?_) fun c => by simp at c
        refine w_ite (fun c => ?_) fun c => by rw [hr18.2] at c; cases c
        refine w_ite (fun c => ?_) fun c => by rw [hl18] at c; cases c
        have h18 := h.take (arr r18.1 K_u6b3 [pK z 0])
        refine w_idx (s := r18.1) h18 (by decide) (by show 0 < 1; decide) ?_
        refine w_idx (s := r7) h7 (by decide) (by show 0 < 3; decide) ?_
        refine w_ldE h18 r18.1 0 (y := pK z 0) rfl rfl ?_
        refine w_ldE h7 r7 0 (y := pK z 0) rfl rfl ?_
        refine w_ite (fun c => ?_) fun c => by simp at c
        refine w_call (flight_tri b ([pK z 2], 3 * z) (by simp)) h fun r27 w h => ?_
        obtain ⟨hr27, h⟩ := h.purP
        refine Own.retP ?_ h.emp'
        rw [hr27]; show (flightF [pK z 2] == z) = true
        rw [fl4]; simp
      · refine w_ite (fun c => ?_) fun c => ?_
        · rw [hr9.1, hr9.2, hlen] at c; cases c
        · refine w_call (all_tri b) h fun r12 w h => ?_
          obtain ⟨n2, h⟩ := h.exP
          obtain ⟨hr12, h⟩ := h.purP
          rw [hr12]
          refine w_call (hall_tri (mkAll n2) (blk n2 [.ptr (some ⟨b, 0⟩)] ^ brd b (LF z 3)) (LF z 3).1 9 (all_iter n2 b (LF z 3) (by omega)) rfl (by omega)) h fun r13 w h => ?_
          rw [h9] at h
          refine w_callL (A := emp) (Q := rarr r13 K_u6b3 (LF z 3).1 ^ rarr r7 K_u6b3 (LF z 3).1) (pc_plain_tri r13 r7 (LF z 3).1 (by omega)) h fun r14 w h => ?_
          obtain ⟨hr14, h⟩ := h.purP
          refine w_ite (fun c => by rw [hr14] at c; cases c) fun c => ?_
          refine w_call (flight_tri b (LF z 3) (by omega)) h fun r15 w h => ?_
          obtain ⟨hr15, h⟩ := h.purP
          refine ⟨?_, h.fin⟩
          rw [hr15, fl3]; simp
end Go.X
