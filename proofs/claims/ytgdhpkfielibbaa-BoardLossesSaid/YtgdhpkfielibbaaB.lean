/- Contracts of the functions. -/
import Derived.Test.YtgdhpkfielibbaaXu
import Derived.Test.YtgdhpkfielibbaaF
set_option linter.unusedVariables false
namespace Go.X
open Go.Proofs

abbrev Pc := Ks.T K_u6b3
abbrev Rg := Ks.T [.int .u64, .int .u64]
abbrev KR : Ks := [.int .u64, .int .u64]
def brd (b : Nat) (v : List Pc × Int) : SP := ex fun s => blk b [.sl s, .int .u64 v.2] ^ arr s K_u6b3 v.1
abbrev Snt := Ks.T K_u4b
def mkPc (f t : Int) (s : Snt) : Pc := (f, t, s.1, s.2.1, s.2.2.1, s.2.2.2.1, s.2.2.2.2, false, false)
def sentF (v : List Pc × Int) (f t : Int) (s : Snt) : Int × (List Pc × Int) :=
  if f ≠ v.2 ∨ t ≤ f then (1, v) else if 4096 ≤ v.1.length then (5, v) else (0, (v.1 ++ [mkPc f t s], t))
instance (b : Nat) (v : List Pc × Int) : NoR (brd b v) := by unfold brd; infer_instance
theorem Own.brd {w0 w : World} {S0 R0 : Nat → Prop} {F G : SP} {v : List Pc × Int} (h : Own w0 S0 R0 w F) (b : Nat) [t : TakeK X.brd b F v G] : ∃ s, Own w0 S0 R0 w (blk b [.sl s, .int .u64 v.2] ^ arr s K_u6b3 v.1 ^ G) := by
  obtain ⟨s, h⟩ := (h.le t.le).exP
  exact ⟨s, h.le (star_assoc _ _ _)⟩
theorem Own.mkBrd {w0 w : World} {S0 R0 : Nat → Prop} {F G : SP} (h : Own w0 S0 R0 w F) (b : Nat) (s : Sl) (l : List Pc) (e : Int) [t : Take (blk b [.sl s, .int .u64 e] ^ arr s K_u6b3 l) F G] : Own w0 S0 R0 w (X.brd b (l, e) ^ G) :=
  (h.le t.le).toEx (f := fun s => blk b [.sl s, .int .u64 e] ^ arr s K_u6b3 l) s
theorem new_tri : Tri Try.prog 13 [] [.lf .ptr] emp (fun r => ex fun b => pur (r = some ⟨b, 0⟩) (brd b ([], 0))) :=
  tri_0 call_board_New fun w S R h => by
    unfold W_board_New
    refine w_new h fun n1 w h => ?_
    exact Own.retE n1 (Own.retP rfl ((h.nil K_u6b3).mkBrd n1 ⟨none, 0, 0⟩ [] 0).keep)
theorem end_tri (b : Nat) (v : List Pc × Int) : Tri Try.prog 16 [.lf (.ptr (some ⟨b, 0⟩))] [.lf (.int .u64)] (brd b v) (fun r => pur (r = v.2) (brd b v)) :=
  tri_0 (call_board_Board_End _) fun w S R h => by
    unfold W_board_Board_End
    obtain ⟨s, h⟩ := h.brd b
    refine w_ite (fun c => (by cases c)) fun c => ?_
    refine w_deref (w_ld h rfl ?_)
    exact Own.retP rfl (h.mkBrd b s v.1 v.2).keep
theorem sent_tri (b : Nat) (f t : Int) (s : Snt) (v : List Pc × Int) :
    Tri Try.prog 15 [.lf (.ptr (some ⟨b, 0⟩)), .lf (.int .u64 f), .lf (.int .u64 t), .agg (Ks.mk K_u4b s)] [.lf (.int .i64)] (brd b v)
      (fun r => pur (r = (sentF v f t s).1) (brd b (sentF v f t s).2)) :=
  tri_0 (call_board_Board_Sent _ _ _ _) fun w S R h => by
    unfold W_board_Board_Sent
    refine w_new h fun n1 w h => ?_
    refine w_ite (by simp) fun _ => ?_
    obtain ⟨sl, h⟩ := h.brd b
    have hlen := (h.rd (s := sl)).2
    refine w_deref (w_ld h rfl ?_)
    refine w_ite (fun hc => ?_) fun hc => ?_
    · have e1 : sentF v f t s = (1, v) := by simp at hc; simp [sentF, hc]
      rw [e1]
      exact Own.retP rfl (h.mkBrd b sl v.1 v.2).keep
    · refine w_deref (w_ld h rfl ?_)
      refine w_ite (fun hc2 => ?_) fun hc2 => ?_
      · have e1 : sentF v f t s = (5, v) := by
          simp at hc hc2
          rw [sentF, if_neg (by omega), if_pos (by omega)]
        rw [e1]
        exact Own.retP rfl (h.mkBrd b sl v.1 v.2).keep
      · have e1 : sentF v f t s = (0, (v.1 ++ [mkPc f t s], t)) := by
          simp at hc hc2
          rw [sentF, if_neg (by omega), if_neg (by omega)]
        rw [e1]
        refine w_drw h fun w h => ?_
        refine w_ld h rfl ?_
        refine w_deref (w_ld h rfl ?_)
        refine w_new h fun n9 w h => ?_
        refine w_chk h rfl ?_
        have h := h.blkArr n9 K_u6b3 [mkPc f t s] rfl (by simp)
        refine w_app h rfl (by simp at hc2 ⊢; omega) fun s10 w hl h => ?_
        refine w_deref (w_set h rfl fun w h => ?_)
        dsimp only [upd, over] at h
        refine w_deref (w_set h rfl fun w h => ?_)
        dsimp only [upd, over] at h
        exact Own.retP rfl (h.mkBrd b s10 (v.1 ++ [mkPc f t s]) t).keep
theorem rg_index_tri (s : Sl) (f : Fv) (C : SP) (xs : List (Ks.T KR)) (p : Ks.T KR → Bool) (hl : xs.length ≤ 4294967296) (hf : ∀ x ∈ xs, TriV Try.prog f [.agg (Ks.mk KR x)] [.lf .bool] C (fun r => pur (r = p x) C)) :
    Tri Try.prog 79 [.lf (.sl s), .lf (.fn f)] [.lf (.int .i64)] (C ^ rarr s KR xs) (fun r => pur (r = fI p xs) C) :=
  tri_0 (call_slices_IndexFunc_sapiRangeapiRange _ _) fun w S R h => by
    unfold W_slices_IndexFunc_sapiRangeapiRange
    have hsl := (h.rd (s := s)).2
    refine w_loop (fun _ => C ^ rarr s KR xs) (fun (y : Int) => 0 ≤ y ∧ y.toNat ≤ xs.length ∧ ∀ j y', j < y.toNat → xs[j]? = some y' → p y' = false) (fun (y : Int) => xs.length - y.toNat) h ⟨Int.le_refl 0, by simp, fun j _ hj => by simp at hj⟩ ?_
    rintro (y : Int) w ⟨h0, h1, h2⟩ h
    refine w_ite (fun c => ?_) fun c => ?_
    · have hy : y.toNat < xs.length := by simp at c; omega
      refine w_idx h h0 hy ?_
      refine w_ldA h s y.toNat 0 _ (at_some hy) rfl (by decide) (un_mk (ks := KR)) ?_
      refine w_callv (hf _ (List.getElem_mem hy)) h fun r w h => ?_
      obtain ⟨hr, h⟩ := h.purP
      have hw : IntKind.i64.wrap (y + 1) = y + 1 := wi (by omega) (by omega)
      refine w_ite (fun c => ?_) fun c => ?_
      · refine Own.retP ?_ h.fin
        rw [fI_at (at_some hy) (by rw [← hr]; exact c) h2]; exact (Int.toNat_of_nonneg h0).symm
      · rw [hw]
        refine ⟨⟨⟨(by show (0 : Int) ≤ y + 1; omega), (by show (y + 1).toNat ≤ _; omega), fun j y' hj hy' => ?_⟩, h⟩, (by show _ - (y + 1).toNat < _; omega)⟩
        have hj : j < (y + 1).toNat := hj
        by_cases hjy : j = y.toNat
        · subst hjy
          rw [at_some hy] at hy'
          cases hy'
          rw [← hr]; exact c
        · exact h2 j y' (by omega) hy'
    · refine Own.retP ?_ h.fin
      rw [fI_none]
      intro x hx
      obtain ⟨j, hj, rfl⟩ := List.mem_iff_getElem.1 hx
      refine h2 j _ ?_ (at_some hj)
      simp at c; omega

theorem rg_contains_tri (s : Sl) (f : Fv) (C : SP) (xs : List (Ks.T KR)) (p : Ks.T KR → Bool) (hl : xs.length ≤ 4294967296) (hf : ∀ x ∈ xs, TriV Try.prog f [.agg (Ks.mk KR x)] [.lf .bool] C (fun r => pur (r = p x) C)) :
    Tri Try.prog 70 [.lf (.sl s), .lf (.fn f)] [.lf .bool] (C ^ rarr s KR xs) (fun r => pur (r = xs.any p) C) :=
  tri_0 (call_slices_ContainsFunc_sapiRangeapiRange _ _) fun w S R h => by
    unfold W_slices_ContainsFunc_sapiRangeapiRange
    refine w_call (rg_index_tri s f C xs p hl hf) h fun r w h => ?_
    obtain ⟨hr, h⟩ := h.purP
    rw [hr]
    exact Own.retP (fI_any p xs) h.keep

def mkAll (n : Nat) : Fv := .mk (.func 49) [] [V1.enc (.lf (.ptr (some ⟨n, 0⟩)))]
theorem all_tri (b : Nat) : Tri Try.prog 19 [.lf (.ptr (some ⟨b, 0⟩))] [.lf .fn] emp (fun f => ex fun n => pur (f = mkAll n) (blk n [.ptr (some ⟨b, 0⟩)])) :=
  tri_0 (call_board_Board_All _) fun w S R h => by
    unfold W_board_Board_All
    refine w_new h fun n1 w h => ?_
    exact Own.retE n1 (Own.retP rfl h.keep)
theorem all_iter (n b : Nat) (v : List Pc × Int) (hl : v.1.length ≤ 4294967296) : Iter Try.prog (mkAll n) (blk n [.ptr (some ⟨b, 0⟩)] ^ brd b v) [.agg K_u6b3] v.1 := by
  intro y I D hy
  refine Tri.g (f := 49) (args := [.lf (.fn y)]) (caps := [.lf (.ptr (some ⟨n, 0⟩))]) (tri_0 (call_board_Board_All_c1 y ⟨n, 0⟩) fun w S R h => ?_)
  unfold W_board_Board_All_c1
  refine w_ld h rfl ?_
  refine w_ite (fun c => (by cases c)) fun c => ?_
  refine w_ld h rfl ?_
  obtain ⟨s, h⟩ := h.brd b
  have hs := (h.rd (s := s)).2
  refine w_deref (w_ld h rfl ?_)
  have h : Own _ _ _ _ (blk b [.sl s, .int .u64 v.2] ^ arr s K_u6b3 v.1 ^ blk n [.ptr (some ⟨b, 0⟩)] ^ I 0) := h.fin
  refine w_loop (fun (y : Int) => blk b [.sl s, .int .u64 v.2] ^ arr s K_u6b3 v.1 ^ blk n [.ptr (some ⟨b, 0⟩)] ^ I y.toNat) (fun (y : Int) => 0 ≤ y ∧ y.toNat ≤ v.1.length) (fun (y : Int) => v.1.length - y.toNat) h ⟨Int.le_refl 0, by simp⟩ ?_
  rintro (i : Int) w ⟨h0, h1⟩ h
  refine w_ite (fun c => ?_) fun c => ?_
  · have hi : i.toNat < v.1.length := by simp at c; omega
    refine w_idx h h0 hi ?_
    refine w_ldE h s i.toNat (at_some hi) rfl ?_
    refine w_new h fun n9 w h => ?_
    refine w_setAll h (by rfl) fun w h => ?_
    refine w_ldAll h rfl ?_
    refine w_callv (hy i.toNat _ (at_some hi)) h fun r w h => ?_
    refine w_ite (fun c => ?_) fun c => ?_
    · have hr : r = false := by simpa using c
      rw [hr] at h
      have h : Own _ _ _ _ (D ^ _) := h
      have h := (h.eitherR (I v.1.length)).mkBrd b s v.1 v.2
      exact h.fin
    · have hr : r = true := by simpa using c
      rw [hr] at h
      have h : Own _ _ _ _ (I (i.toNat + 1) ^ _) := h
      rw [wi (by omega) (by omega)]
      have e : (i + 1).toNat = i.toNat + 1 := by omega
      refine ⟨⟨⟨(by show (0 : Int) ≤ i + 1; omega), (by show (i + 1).toNat ≤ _; omega)⟩, ?_⟩, (by show _ - (i + 1).toNat < _; omega)⟩
      show Own _ _ _ _ (blk b [.sl s, .int .u64 v.2] ^ arr s K_u6b3 v.1 ^ blk n [.ptr (some ⟨b, 0⟩)] ^ I (i + 1).toNat)
      rw [e]
      exact h.fin
  · have hi : i.toNat = v.1.length := by simp at c; omega
    rw [hi] at h
    have h := h.take (I v.1.length)
    have h := (h.eitherL D).mkBrd b s v.1 v.2
    exact h.fin

def takeN {α : Type} (xs : List α) (most : Int) : List α := xs.take (max 1 most.toNat)
theorem hall_tri (f : Fv) (C : SP) (xs : List Pc) (most : Int) (it : Iter Try.prog f C [.agg K_u6b3] xs) (hf : isNilF f = false) (hl : xs.length ≤ 4294967295) :
    Tri Try.prog 18 [.lf (.fn f), .lf (.int .i64 most)] [.lf .sl] C (fun s => C ^ arr s K_u6b3 (takeN xs most)) :=
  tri_0 (call_canterhelp_All_apiPiece f most) fun w S R h => by
    unfold W_canterhelp_All_apiPiece
    refine w_new h fun n1 w h => ?_
    refine w_new h fun n2 w h => ?_
    refine w_ite (fun c => by rw [hf] at c; cases c) fun c => ?_
    -- what is gathered
    have hy : ∀ i x, xs[i]? = some x → TriV Try.prog (.mk (.func 48) [] [V1.enc (.lf (.ptr (some ⟨n2, 0⟩))), V1.enc (.lf (.ptr (some ⟨n1, 0⟩)))]) (Rs.mk [.agg K_u6b3] x) [.lf .bool]
        (ex fun s => pur (i < max 1 most.toNat) (blk n2 [.sl s] ^ blk n1 [.int .i64 most] ^ arr s K_u6b3 (xs.take i)))
        (fun c => cond c (ex fun s => pur (i + 1 < max 1 most.toNat) (blk n2 [.sl s] ^ blk n1 [.int .i64 most] ^ arr s K_u6b3 (xs.take (i + 1)))) (ex fun s => blk n2 [.sl s] ^ arr s K_u6b3 (takeN xs most))) := by
      intro i x hx
      have hi : i < xs.length := (List.getElem?_eq_some_iff.1 hx).1
      refine (Tri.g (f := 48) (args := [.agg (Ks.mk K_u6b3 x)]) (caps := [.lf (.ptr (some ⟨n2, 0⟩)), .lf (.ptr (some ⟨n1, 0⟩))]) (tri_0 (call_canterhelp_All_apiPiece_c1 x ⟨n2, 0⟩ ⟨n1, 0⟩) fun w S R h => ?_)).v
      unfold W_canterhelp_All_apiPiece_c1
      refine w_new h fun m1 w h => ?_
      obtain ⟨s, h⟩ := (h.take (ex fun s => pur (i < max 1 most.toNat) (blk n2 [.sl s] ^ blk n1 [.int .i64 most] ^ arr s K_u6b3 (xs.take i)))).exP
      obtain ⟨hlt, h⟩ := h.purP
      refine w_ld h rfl ?_
      refine w_ldAll h rfl ?_
      refine w_new h fun m2 w h => ?_
      have h := h.blkArr m2 K_u6b3 [x] rfl (by simp)
      have htl : (xs.take i).length = i := by rw [List.length_take]; omega
      refine w_app h rfl (by rw [htl]; simp; omega) fun s5 w hs h => ?_
      refine w_set h rfl fun w h => ?_
      dsimp only [upd, over] at h
      refine w_ld h rfl ?_
      refine w_ld h rfl ?_
      have htk : xs.take i ++ [x] = xs.take (i + 1) := by rw [List.take_add_one, hx]; rfl
      rw [htl] at hs
      simp only [List.length_singleton] at hs
      rw [htk] at h
      by_cases hc : ((s5.len : Nat) : Int) < most
      · rw [decide_eq_true hc]
        exact Own.retE s5 (Own.retP (by omega) h.fin)
      · rw [decide_eq_false hc]
        have e : takeN xs most = xs.take (i + 1) := by rw [takeN]; congr 1; omega
        rw [e]
        exact Own.retE s5 h.fin
    have hit := (it _ _ _ hy).v
    have h := (h.nil K_u6b3).take (blk n2 [.sl ⟨none, 0, 0⟩] ^ blk n1 [.int .i64 most] ^ arr ⟨none, 0, 0⟩ K_u6b3 [])
    have h := h.toPur (p := 0 < max 1 most.toNat) (by omega)
    have h := h.toEx (f := fun s => pur (0 < max 1 most.toNat) (blk n2 [.sl s] ^ blk n1 [.int .i64 most] ^ arr s K_u6b3 (xs.take 0))) ⟨none, 0, 0⟩
    refine w_callv hit h fun r w h => ?_
    have h := h.take (either (ex fun s => pur (xs.length < max 1 most.toNat) (blk n2 [.sl s] ^ blk n1 [.int .i64 most] ^ arr s K_u6b3 (xs.take xs.length))) (ex fun s => blk n2 [.sl s] ^ arr s K_u6b3 (takeN xs most)))
    obtain ⟨b, h⟩ := h.exP
    cases b with
    | true =>
      have h : Own _ _ _ _ ((ex fun s => pur (xs.length < max 1 most.toNat) (blk n2 [.sl s] ^ blk n1 [.int .i64 most] ^ arr s K_u6b3 (xs.take xs.length))) ^ _) := h
      obtain ⟨s, h⟩ := h.exP
      obtain ⟨hlt, h⟩ := h.purP
      refine w_ld h rfl ?_
      have e : takeN xs most = xs.take xs.length := by rw [takeN, List.take_of_length_le (by omega), List.take_length]
      rw [e]
      exact h.fin
    | false =>
      have h : Own _ _ _ _ ((ex fun s => blk n2 [.sl s] ^ arr s K_u6b3 (takeN xs most)) ^ _) := h
      obtain ⟨s, h⟩ := h.exP
      refine w_ld h rfl ?_
      exact h.fin
abbrev pFrom (p : Pc) : Int := p.1
abbrev pTo (p : Pc) : Int := p.2.1
abbrev pSk (p : Pc) : Bool := p.2.2.2.2.2.2.2.1
abbrev pLo (p : Pc) : Bool := p.2.2.2.2.2.2.2.2
def flyP (p : Pc) : Bool := !pSk p && !pLo p
theorem flying_tri (p : Pc) : Tri Try.prog 47 [.agg (Ks.mk K_u6b3 p)] [.lf .bool] emp (fun r => pur (r = flyP p) emp) :=
  tri_0 (call_board_flying p) fun w S R h => by
    unfold W_board_flying
    refine w_new h fun n1 w h => ?_
    refine w_ld h rfl ?_
    refine w_ite (fun c => ?_) fun c => ?_
    · refine w_ld h rfl ?_
      refine Own.retP ?_ h.fin
      show (!pLo p) = flyP p
      have c : (!pSk p) = true := c
      simp [flyP, c]
    · refine Own.retP ?_ h.fin
      have c : (!pSk p) = false := c
      simp [flyP, c]
def addF (n : Int) (p : Pc) : Int := if flyP p then IntKind.u64.wrap (n + IntKind.u64.wrap (pTo p - pFrom p)) else n
def flightF (l : List Pc) : Int := l.foldl addF 0
theorem flight_take {l : List Pc} {i : Nat} {x : Pc} (h : l[i]? = some x) : flightF (l.take (i + 1)) = addF (flightF (l.take i)) x := by
  rw [List.take_add_one, h]; simp [flightF]
theorem flight_tri (b : Nat) (v : List Pc × Int) (hl : v.1.length ≤ 4294967296) : Tri Try.prog 17 [.lf (.ptr (some ⟨b, 0⟩))] [.lf (.int .u64)] (brd b v) (fun r => pur (r = flightF v.1) (brd b v)) :=
  tri_n (W := fun n R => W_board_Board_Flight n (some ⟨b, 0⟩) R) (call_board_Board_Flight _) fun w S R h => by
    unfold W_board_Board_Flight
    refine w_new h fun n1 w h => ?_
    refine w_set h rfl fun w h => ?_
    dsimp only [upd, over] at h
    refine w_call (all_tri b) (h.le (star_emp _)) fun f w h => ?_
    obtain ⟨n, h⟩ := h.exP
    obtain ⟨hf, h⟩ := h.purP
    rw [hf]
    have h := h.take (blk n1 [.int .u64 0])
    have h : Own _ _ _ _ (blk n1 [.int .u64 (flightF (v.1.take 0))] ^ _) := h
    refine w_range (all_iter n b v hl) (fun i => blk n1 [.int .u64 (flightF (v.1.take i))]) (fun _ => pur False emp) h ?_ ?_ ?_
    · intro i x hx w S R mid next jump rdy bsy hmid hnext hjump h
      refine w_new h fun n7 w h => ?_
      refine w_setAll h (by rfl) fun w h => ?_
      refine hmid h fun w h => ?_
      refine w_ldAll h rfl ?_
      refine w_call (flying_tri x) h fun r w h => ?_
      obtain ⟨hr, h⟩ := h.purP
      refine w_ite (fun c => ?_) fun c => ?_
      · refine w_ld h rfl ?_
        refine w_ld h rfl ?_
        refine w_ld h rfl ?_
        refine w_set h rfl fun w h => ?_
        dsimp only [upd, over] at h
        have e : flightF (v.1.take (i + 1)) = IntKind.u64.wrap (flightF (v.1.take i) + IntKind.u64.wrap (pTo x - pFrom x)) := by
          rw [flight_take hx, addF, if_pos (by rw [← hr]; exact c)]
        rw [← e] at h
        exact hnext h
      · have e : flightF (v.1.take (i + 1)) = flightF (v.1.take i) := by
          rw [flight_take hx, addF, if_neg (by rw [← hr, c]; simp)]
        rw [← e] at h
        exact hnext h
    · intro w h
      have h := h.take (blk n1 [.int .u64 (flightF (v.1.take v.1.length))])
      refine w_ld h rfl ?_
      refine w_leave h fun w h => ?_
      rw [List.take_length]
      exact Own.retP rfl h.fin
    · intro j w hj h
      exact (h.take (pur False emp)).purP.1.elim
def outF (e : Int) (r : Int × Int) : Bool := decide (r.2 > e) || decide (r.1 ≥ r.2)
theorem mayc_tri (r : Int × Int) (n b : Nat) (v : List Pc × Int) : Tri Try.prog 71 [.agg (Ks.mk KR r), .lf (.ptr (some ⟨n, 0⟩))] [.lf .bool] (blk n [.ptr (some ⟨b, 0⟩)] ^ brd b v) (fun x => pur (x = outF v.2 r) (blk n [.ptr (some ⟨b, 0⟩)] ^ brd b v)) :=
  tri_0 (call_board_Board_may_c1 r ⟨n, 0⟩) fun w S R h => by
    unfold W_board_Board_may_c1
    refine w_new h fun n1 w h => ?_
    refine w_drw h fun w h => ?_
    refine w_ld h rfl ?_
    refine w_ld h rfl ?_
    obtain ⟨s, h⟩ := h.brd b
    refine w_deref (w_ld h rfl ?_)
    have h := h.mkBrd b s v.1 v.2
    refine w_ite (fun c => ?_) fun c => ?_
    · refine Own.retP ?_ h.fin
      simp at c; simp [outF, c]
    · refine w_ld h rfl ?_
      refine w_ld h rfl ?_
      refine Own.retP ?_ h.fin
      simp at c; simp [outF]; intro; omega
def mayF (v : List Pc × Int) (upto : Int) (xs : List (Int × Int)) : Bool := decide (upto ≤ v.2) && !xs.any (outF v.2)
theorem may_tri (b : Nat) (v : List Pc × Int) (upto : Int) (s : Sl) (xs : List (Ks.T KR)) (hl : xs.length ≤ 4294967296) :
    Tri Try.prog 50 [.lf (.ptr (some ⟨b, 0⟩)), .lf (.int .u64 upto), .lf (.sl s)] [.lf .bool] (brd b v ^ rarr s KR xs) (fun x => pur (x = mayF v upto xs) (brd b v)) :=
  tri_0 (call_board_Board_may _ _ _) fun w S R h => by
    unfold W_board_Board_may
    refine w_new h fun n1 w h => ?_
    refine w_ld h rfl ?_
    obtain ⟨s', h⟩ := h.brd b
    refine w_deref (w_ld h rfl ?_)
    have h := h.mkBrd b s' v.1 v.2
    refine w_ite (fun c => ?_) fun c => ?_
    · refine w_call (rg_contains_tri s _ (blk n1 [.ptr (some ⟨b, 0⟩)] ^ brd b v) xs (outF v.2) hl (fun x _ => (Tri.g (f := 71) (args := [.agg (Ks.mk KR x)]) (caps := [.lf (.ptr (some ⟨n1, 0⟩))]) (mayc_tri x n1 b v)).v)) h fun r w h => ?_
      obtain ⟨hr, h⟩ := h.purP
      refine Own.retP ?_ h.fin
      simp at c; simp [mayF, c, hr]
    · refine Own.retP ?_ h.fin
      simp at c; simp [mayF]; intro; omega
def inF (p : Pc) (r : Int × Int) : Bool := decide (r.1 ≤ p.1) && decide (r.2 ≥ p.2.1)
theorem holdsc_tri (r : Int × Int) (n : Nat) (p : Pc) : Tri Try.prog 72 [.agg (Ks.mk KR r), .lf (.ptr (some ⟨n, 0⟩))] [.lf .bool] (blk n (Ks.mk K_u6b3 p)) (fun x => pur (x = inF p r) (blk n (Ks.mk K_u6b3 p))) :=
  tri_0 (call_board_holds_c1 r ⟨n, 0⟩) fun w S R h => by
    unfold W_board_holds_c1
    refine w_new h fun n1 w h => ?_
    refine w_ld h rfl ?_
    refine w_ld h rfl ?_
    refine w_ite (fun c => ?_) fun c => ?_
    · refine w_ld h rfl ?_
      refine w_ld h rfl ?_
      refine Own.retP ?_ h.fin
      simp at c; simp [inF, c]
    · refine Own.retP ?_ h.fin
      simp at c; simp [inF]; intro; omega
theorem holds_tri (p : Pc) (s : Sl) (xs : List (Ks.T KR)) (hl : xs.length ≤ 4294967296) :
    Tri Try.prog 51 [.lf (.sl s), .agg (Ks.mk K_u6b3 p)] [.lf .bool] (emp ^ rarr s KR xs) (fun x => pur (x = xs.any (inF p)) emp) :=
  tri_0 (call_board_holds _ _) fun w S R h => by
    unfold W_board_holds
    refine w_new h fun n1 w h => ?_
    refine w_call (rg_contains_tri s _ (blk n1 (Ks.mk K_u6b3 p)) xs (inF p) hl (fun x _ => (Tri.g (f := 72) (args := [.agg (Ks.mk KR x)]) (caps := [.lf (.ptr (some ⟨n1, 0⟩))]) (holdsc_tri x n1 p)).v)) h fun r w h => ?_
    obtain ⟨hr, h⟩ := h.purP
    exact Own.retP hr h.fin
def setLo (p : Pc) (x : Bool) : Pc := (p.1, p.2.1, p.2.2.1, p.2.2.2.1, p.2.2.2.2.1, p.2.2.2.2.2.1, p.2.2.2.2.2.2.1, p.2.2.2.2.2.2.2.1, x)
def abvF (p : Pc) (a : Int) : Int := if pSk p then IntKind.i64.wrap (a + 1) else a
def hitF (p : Pc) (a : Int) : Bool := flyP p && decide (abvF p a ≥ 3)
def passF : List Pc → List Pc × Int × Int
  | [] => ([], 0, 0)
  | p :: l => let r := passF l
    (if hitF p r.2.2 then setLo p true :: r.1 else p :: r.1, if hitF p r.2.2 then IntKind.u64.wrap (r.2.1 + IntKind.u64.wrap (p.2.1 - p.1)) else r.2.1, abvF p r.2.2)
theorem pass_len : ∀ l : List Pc, (passF l).1.length = l.length
  | [] => rfl
  | p :: l => by simp only [passF]; split <;> simp [pass_len l]
theorem drop_at {α : Type} {l : List α} {i : Nat} {x : α} (h : l[i]? = some x) : l.drop i = x :: l.drop (i + 1) := by
  obtain ⟨hl, he⟩ := List.getElem?_eq_some_iff.1 h
  rw [← he]; exact List.drop_eq_getElem_cons hl
theorem passed_tri (b : Nat) (v : List Pc × Int) (hl : v.1.length ≤ 4294967296) :
    Tri Try.prog 52 [.lf (.ptr (some ⟨b, 0⟩))] [.lf (.int .u64)] (brd b v) (fun x => pur (x = (passF v.1).2.1) (brd b ((passF v.1).1, v.2))) :=
  tri_0 (call_board_Board_passed _) fun w S R h => by
    unfold W_board_Board_passed
    obtain ⟨s, h⟩ := (h.le (star_emp _)).brd b
    have hs := (h.rd (s := s)).2
    refine w_deref (w_ld h rfl ?_)
    rw [wi (n := ((s.len : Nat) : Int) - 1) (by omega) (by omega)]
    have e0 : v.1.take (((s.len : Nat) : Int) - 1 + 1).toNat ++ (passF (v.1.drop (((s.len : Nat) : Int) - 1 + 1).toNat)).1 = v.1 := by
      have e : (((s.len : Nat) : Int) - 1 + 1).toNat = v.1.length := by omega
      rw [e]; simp [passF]
    have e1 : passF (v.1.drop (((s.len : Nat) : Int) - 1 + 1).toNat) = ([], 0, 0) := by
      have e : (((s.len : Nat) : Int) - 1 + 1).toNat = v.1.length := by omega
      rw [e]; simp [passF]
    have h := h.take (blk b [.sl s, .int .u64 v.2] ^ arr s K_u6b3 v.1)
    have h := h.keep
    refine w_loop (fun (y : Int × Int × Int) => blk b [.sl s, .int .u64 v.2] ^ arr s K_u6b3 (v.1.take (y.2.2 + 1).toNat ++ (passF (v.1.drop (y.2.2 + 1).toNat)).1))
      (fun (y : Int × Int × Int) => (-1 ≤ y.2.2 ∧ y.2.2 < v.1.length) ∧ y.1 = (passF (v.1.drop (y.2.2 + 1).toNat)).2.1 ∧ y.2.1 = (passF (v.1.drop (y.2.2 + 1).toNat)).2.2) (fun (y : Int × Int × Int) => (y.2.2 + 1).toNat) (by rw [e0]; exact h) ⟨⟨by show (-1 : Int) ≤ _ - 1; omega, by show ((s.len : Nat) : Int) - 1 < _; omega⟩, by rw [e1], by rw [e1]⟩ ?_
    rintro (⟨lost, above, i⟩ : Int × Int × Int) w ⟨⟨h0, h1⟩, h2, h3⟩ h
    dsimp only at h0 h1 h2 h3 h ⊢
    refine w_ite (fun c => ?_) fun c => ?_
    · have c : 0 ≤ i := by simpa using c
      obtain ⟨k, hk⟩ : ∃ k : Nat, i = k := ⟨i.toNat, by omega⟩
      have hk1 : (i + 1).toNat = k + 1 := by omega
      have hk0 : i.toNat = k := by omega
      have hkl : k < v.1.length := by omega
      rw [hk1] at h2 h3 h
      obtain ⟨p, hp⟩ : ∃ p, v.1[k]? = some p := ⟨_, at_some hkl⟩
      have hd := drop_at hp
      obtain ⟨xs, hxs⟩ : ∃ xs, xs = v.1.take (k + 1) ++ (passF (v.1.drop (k + 1))).1 := ⟨_, rfl⟩
      have hxk : xs[i.toNat]? = some p := by
        rw [hk0, hxs, List.getElem?_append_left (by rw [List.length_take]; omega), List.getElem?_take, if_pos (by omega), hp]
      have hxl : i.toNat < xs.length := (List.getElem?_eq_some_iff.1 hxk).1
      rw [← hxs] at h
      have hpass : passF (v.1.drop k) = (if hitF p above then setLo p true :: (passF (v.1.drop (k + 1))).1 else p :: (passF (v.1.drop (k + 1))).1, if hitF p above then IntKind.u64.wrap (lost + IntKind.u64.wrap (p.2.1 - p.1)) else lost, abvF p above) := by
        rw [hd, passF, h2, h3]
      refine w_deref (w_ld h rfl ?_)
      refine w_idx h c hxl ?_
      refine w_join h (fun _ => blk b [.sl s, .int .u64 v.2] ^ arr s K_u6b3 xs) (fun (y : Int) => y = abvF p above) (fun (y : Int) w hy h => ?_) ?_
      · refine w_deref (w_ldE h s i.toNat hxk rfl ?_)
        refine w_call (flying_tri p) h fun r w h => ?_
        obtain ⟨hr, h⟩ := h.purP
        have hw : IntKind.i64.wrap (i - 1) = i - 1 := wi (by omega) (by omega)
        have hhit : (r && decide (y ≥ 3)) = hitF p above := by rw [hr, hy]; rfl
        have hk2 : (i - 1 + 1).toNat = k := by omega
        have ht : v.1.take (k + 1) = v.1.take k ++ [p] := by rw [List.take_add_one, hp]; rfl
        have hlt : (v.1.take k).length = k := by rw [List.length_take]; omega
        refine w_ite (fun c2 => ?_) fun c2 => ?_
        · rw [hhit] at c2
          rw [c2] at hpass
          simp only [if_true] at hpass
          refine w_deref (w_stA h s i.toNat 8 p (setLo p true) hxk rfl (by decide) (by simp) rfl fun w h => ?_)
          have hset : xs.set i.toNat (setLo p true) = v.1.take k ++ (passF (v.1.drop k)).1 := by
            rw [hpass, hxs, hk0, ht, List.append_assoc, List.set_append_right _ _ (by omega), hlt]
            simp
          have hx2 : (xs.set i.toNat (setLo p true))[i.toNat]? = some (setLo p true) := by rw [List.getElem?_set_self hxl]
          refine w_drw h fun w h => ?_
          refine w_deref (w_deref ?_)
          refine w_ldA h s i.toNat 1 _ hx2 rfl (by decide) rfl ?_
          refine w_ldA h s i.toNat 0 _ hx2 rfl (by decide) rfl ?_
          rw [hw]
          refine ⟨⟨⟨⟨by show (-1 : Int) ≤ i - 1; omega, by show i - 1 < _; omega⟩, ?_, ?_⟩, ?_⟩, by show (i - 1 + 1).toNat < (i + 1).toNat; omega⟩
          · show _ = (passF (v.1.drop (i - 1 + 1).toNat)).2.1
            rw [hk2, hpass]; rfl
          · show y = (passF (v.1.drop (i - 1 + 1).toNat)).2.2
            rw [hk2, hpass]; exact hy
          · show Own _ _ _ _ (blk b [.sl s, .int .u64 v.2] ^ arr s K_u6b3 (v.1.take (i - 1 + 1).toNat ++ (passF (v.1.drop (i - 1 + 1).toNat)).1))
            rw [hk2, ← hset]
            exact h.fin
        · rw [hhit] at c2
          rw [c2] at hpass
          simp only [Bool.false_eq_true, if_false] at hpass
          rw [hw]
          have hsame : xs = v.1.take k ++ (passF (v.1.drop k)).1 := by rw [hpass, hxs, ht]; simp
          refine ⟨⟨⟨⟨by show (-1 : Int) ≤ i - 1; omega, by show i - 1 < _; omega⟩, ?_, ?_⟩, ?_⟩, by show (i - 1 + 1).toNat < (i + 1).toNat; omega⟩
          · show _ = (passF (v.1.drop (i - 1 + 1).toNat)).2.1
            rw [hk2, hpass]
          · show y = (passF (v.1.drop (i - 1 + 1).toNat)).2.2
            rw [hk2, hpass]; exact hy
          · show Own _ _ _ _ (blk b [.sl s, .int .u64 v.2] ^ arr s K_u6b3 (v.1.take (i - 1 + 1).toNat ++ (passF (v.1.drop (i - 1 + 1).toNat)).1))
            rw [hk2, ← hsame]
            exact h.fin
      · refine w_deref (w_ldA h s i.toNat 7 p hxk rfl (by decide) rfl ?_)
        refine w_ite (fun c2 => ?_) fun c2 => ?_
        · exact ⟨by have c2 : pSk p = true := c2; simp [abvF, c2], h⟩
        · exact ⟨by have c2 : pSk p = false := c2; simp [abvF, c2], h⟩
    · have c : i = -1 := by simp at c; omega
      rw [c] at h2 h3 h
      simp only [show ((-1 : Int) + 1).toNat = 0 from rfl, List.drop_zero, List.take_zero, List.nil_append] at h2 h
      refine Own.retP h2 ?_
      exact (h.mkBrd b s (passF v.1).1 v.2).fin
def setSk (p : Pc) : Pc := (p.1, p.2.1, p.2.2.1, p.2.2.2.1, p.2.2.2.2.1, p.2.2.2.2.2.1, p.2.2.2.2.2.2.1, true, false)
def toldP (upto : Int) (xs : List (Int × Int)) (p : Pc) : Bool := !pSk p && (decide (p.2.1 ≤ upto) || xs.any (inF p))
def markP (upto : Int) (xs : List (Int × Int)) (p : Pc) : Pc := if toldP upto xs p then setSk p else p
def toldL (upto : Int) (xs : List (Int × Int)) (l : List Pc) : List Pc := l.filter (toldP upto xs)
def restL (upto : Int) (xs : List (Int × Int)) (l : List Pc) : List Pc := (l.filter (fun p => !decide (p.2.1 ≤ upto))).map (markP upto xs)
theorem toldL_take {upto : Int} {xs : List (Int × Int)} {l : List Pc} {k : Nat} {p : Pc} (h : l[k]? = some p) : toldL upto xs (l.take (k + 1)) = toldL upto xs (l.take k) ++ (if toldP upto xs p then [p] else []) := by
  rw [List.take_add_one, h, toldL, List.filter_append, toldL]; congr 1
  simp [List.filter_cons]
theorem restL_take {upto : Int} {xs : List (Int × Int)} {l : List Pc} {k : Nat} {p : Pc} (h : l[k]? = some p) : restL upto xs (l.take (k + 1)) = restL upto xs (l.take k) ++ (if p.2.1 ≤ upto then [] else [markP upto xs p]) := by
  rw [List.take_add_one, h, restL, List.filter_append, List.map_append, restL]; congr 1
  by_cases hc : p.2.1 ≤ upto <;> simp [hc]
theorem toldL_len (upto : Int) (xs : List (Int × Int)) (l : List Pc) (k : Nat) : (toldL upto xs (l.take k)).length ≤ k := Nat.le_trans (List.length_filter_le _ _) (by rw [List.length_take]; omega)
theorem restL_len (upto : Int) (xs : List (Int × Int)) (l : List Pc) (k : Nat) : (restL upto xs (l.take k)).length ≤ k := by rw [restL, List.length_map]; exact Nat.le_trans (List.length_filter_le _ _) (by rw [List.length_take]; omega)
theorem ack_no_tri (b : Nat) (v : List Pc × Int) (upto : Int) (s : Sl) (xs : List (Ks.T KR)) (hx : xs.length ≤ 4294967296) (hm : mayF v upto xs = false) :
    Tri Try.prog 20 [.lf (.ptr (some ⟨b, 0⟩)), .lf (.int .u64 upto), .lf (.sl s)] [.lf .sl, .lf (.int .u64), .lf (.int .i64)] (brd b v ^ rarr s KR xs) (fun r => pur (r.2.1 = 0 ∧ r.2.2 = 11) (brd b v)) :=
  tri_0 (call_board_Board_Ack _ _ _) fun w S R h => by
    unfold W_board_Board_Ack
    refine w_ite (fun c => (by cases c)) fun c => ?_
    refine w_callL (may_tri b v upto s xs hx) h fun r w h => ?_
    obtain ⟨hr, h⟩ := h.purP
    refine w_ite (fun c => ?_) fun c => ?_
    · exact Own.retP ⟨rfl, rfl⟩ h.fin
    · rw [hr, hm] at c; cases c
theorem ack_tri (b : Nat) (v : List Pc × Int) (upto : Int) (a : Sl) (xs : List (Ks.T KR)) (hl : v.1.length ≤ 4294967295) (hx : xs.length ≤ 4294967296) (hm : mayF v upto xs = true) :
    Tri Try.prog 20 [.lf (.ptr (some ⟨b, 0⟩)), .lf (.int .u64 upto), .lf (.sl a)] [.lf .sl, .lf (.int .u64), .lf (.int .i64)] (brd b v ^ rarr a KR xs)
      (fun r => pur (r.2.1 = (passF (restL upto xs v.1)).2.1 ∧ r.2.2 = 0) (arr r.1 K_u6b3 (toldL upto xs v.1) ^ brd b ((passF (restL upto xs v.1)).1, v.2))) :=
  tri_0 (call_board_Board_Ack _ _ _) fun w S R h => by
    unfold W_board_Board_Ack
    refine w_ite (fun c => (by cases c)) fun c => ?_
    refine w_callL (Q := rarr a KR xs) (may_tri b v upto a xs hx) h fun r w h => ?_
    obtain ⟨hr, h⟩ := h.purP
    refine w_ite (fun c => by rw [hr, hm] at c; cases c) fun c => ?_
    obtain ⟨s, h⟩ := h.brd b
    have hs := (h.rd (s := s)).2
    refine w_deref (w_ld h rfl ?_)
    have h := (h.nil K_u6b3)
    have h := (h.nil K_u6b3)
    have h := (h.take (blk b [.sl s, .int .u64 v.2] ^ arr s K_u6b3 v.1 ^ arr ⟨none, 0, 0⟩ K_u6b3 [] ^ arr ⟨none, 0, 0⟩ K_u6b3 [] ^ rarr a KR xs)).keep
    refine w_loop (fun (y : Sl × Sl × Int) => blk b [.sl s, .int .u64 v.2] ^ arr s K_u6b3 v.1 ^ arr y.1 K_u6b3 (toldL upto xs (v.1.take y.2.2.toNat)) ^ arr y.2.1 K_u6b3 (restL upto xs (v.1.take y.2.2.toNat)) ^ rarr a KR xs)
      (fun (y : Sl × Sl × Int) => 0 ≤ y.2.2 ∧ y.2.2.toNat ≤ v.1.length) (fun (y : Sl × Sl × Int) => v.1.length - y.2.2.toNat) h ⟨Int.le_refl 0, Nat.zero_le _⟩ ?_
    rintro (⟨ts, rs, i⟩ : Sl × Sl × Int) w ⟨h0, h1⟩ h
    dsimp only at h0 h1 h ⊢
    refine w_ite (fun c => ?_) fun c => ?_
    · have hi : i.toNat < v.1.length := by simp at c; omega
      obtain ⟨p, hp⟩ : ∃ p, v.1[i.toNat]? = some p := ⟨_, at_some hi⟩
      have ht := toldL_take (upto := upto) (xs := xs) hp
      have hrt := restL_take (upto := upto) (xs := xs) hp
      have hw : IntKind.i64.wrap (i + 1) = i + 1 := wi (by omega) (by omega)
      have hi1 : (i + 1).toNat = i.toNat + 1 := by omega
      refine w_idx h h0 hi ?_
      refine w_ldE h s i.toNat hp rfl ?_
      refine w_new h fun n8 w h => ?_
      refine w_setAll h (by rfl) fun w h => ?_
      refine w_ld h rfl ?_
      refine w_join h (fun (y : Sl) => blk n8 (Ks.mk K_u6b3 (markP upto xs p)) ^ blk b [.sl s, .int .u64 v.2] ^ arr s K_u6b3 v.1 ^ arr y K_u6b3 (toldL upto xs (v.1.take (i.toNat + 1))) ^ arr rs K_u6b3 (restL upto xs (v.1.take i.toNat)) ^ rarr a KR xs) (fun _ => True) (fun (y : Sl) w _ h => ?_) ?_
      · refine w_ite (fun c2 => ?_) fun c2 => ?_
        · have c2 : p.2.1 ≤ upto := by simpa using c2
          rw [hw]
          rw [if_pos c2, List.append_nil] at hrt
          refine ⟨⟨⟨by show (0 : Int) ≤ i + 1; omega, by show (i + 1).toNat ≤ _; omega⟩, ?_⟩, by show _ - (i + 1).toNat < _; omega⟩
          show Own _ _ _ _ (blk b [.sl s, .int .u64 v.2] ^ arr s K_u6b3 v.1 ^ arr y K_u6b3 (toldL upto xs (v.1.take (i + 1).toNat)) ^ arr rs K_u6b3 (restL upto xs (v.1.take (i + 1).toNat)) ^ rarr a KR xs)
          rw [hi1, hrt]
          exact h.fin
        · have c2 : ¬ p.2.1 ≤ upto := by simpa using c2
          rw [if_neg c2] at hrt
          refine w_ldAll h rfl ?_
          refine w_new h fun n21 w h => ?_
          have h := h.blkArr n21 K_u6b3 [markP upto xs p] rfl (by simp)
          have hlr := restL_len upto xs v.1 i.toNat
          refine w_app (K := K_u6b3) h rfl (by simp; omega) fun s22 w hl2 h => ?_
          rw [hw]
          refine ⟨⟨⟨by show (0 : Int) ≤ i + 1; omega, by show (i + 1).toNat ≤ _; omega⟩, ?_⟩, by show _ - (i + 1).toNat < _; omega⟩
          show Own _ _ _ _ (blk b [.sl s, .int .u64 v.2] ^ arr s K_u6b3 v.1 ^ arr y K_u6b3 (toldL upto xs (v.1.take (i + 1).toNat)) ^ arr s22 K_u6b3 (restL upto xs (v.1.take (i + 1).toNat)) ^ rarr a KR xs)
          rw [hi1, hrt]
          exact h.fin
      · refine w_join h (fun _ => blk n8 (Ks.mk K_u6b3 p) ^ blk b [.sl s, .int .u64 v.2] ^ arr s K_u6b3 v.1 ^ arr ts K_u6b3 (toldL upto xs (v.1.take i.toNat)) ^ arr rs K_u6b3 (restL upto xs (v.1.take i.toNat)) ^ rarr a KR xs) (fun (y : Bool) => y = toldP upto xs p) (fun (y : Bool) w hy h => ?_) ?_
        · refine w_ite (fun c2 => ?_) fun c2 => ?_
          · rw [c2] at hy
            rw [← hy, if_pos rfl] at ht
            have hmk : markP upto xs p = setSk p := by rw [markP, ← hy]; rfl
            refine w_ldAll h rfl ?_
            refine w_new h fun n18 w h => ?_
            have h := h.blkArr n18 K_u6b3 [p] rfl (by simp)
            have hlr := toldL_len upto xs v.1 i.toNat
            refine w_app (K := K_u6b3) h rfl (by simp; omega) fun s19 w hl2 h => ?_
            refine w_set h rfl fun w h => ?_
            refine w_set h rfl fun w h => ?_
            refine ⟨trivial, ?_⟩
            rw [ht, hmk]
            have h : Own _ _ _ _ (blk n8 (Ks.mk K_u6b3 (setSk p)) ^ _) := h
            exact h.fin
          · rw [c2] at hy
            rw [← hy] at ht
            have hmk : markP upto xs p = p := by rw [markP, ← hy]; rfl
            refine ⟨trivial, ?_⟩
            rw [ht, hmk]
            simp only [Bool.false_eq_true, if_false, List.append_nil]
            exact h.fin
        · refine w_ld h rfl ?_
          refine w_ite (fun c2 => ?_) fun c2 => ?_
          · have c2 : (!pSk p) = true := c2
            refine w_ite (fun c3 => ?_) fun c3 => ?_
            · exact ⟨by have c3 : decide (p.2.1 ≤ upto) = true := c3; simp [toldP, c2, c3], h.fin⟩
            · refine w_ldAll h rfl ?_
              refine w_callL (A := emp) (Q := rarr a KR xs) (holds_tri p a xs hx) h fun r w h => ?_
              obtain ⟨hr2, h⟩ := h.purP
              exact ⟨by have c3 : decide (p.2.1 ≤ upto) = false := c3; rw [hr2, toldP, c2, c3]; simp, h.fin⟩
          · exact ⟨by have c2 : (!pSk p) = false := c2; simp [toldP, c2], h.fin⟩
    · have hi : i.toNat = v.1.length := by simp at c; omega
      rw [hi, List.take_length] at h
      refine w_deref (w_set h rfl fun w h => ?_)
      dsimp only [upd, over] at h
      have h := h.mkBrd b rs (restL upto xs v.1) v.2
      have hrl : (restL upto xs v.1).length ≤ 4294967296 := by
        have := restL_len upto xs v.1 v.1.length
        rw [List.take_length] at this; omega
      refine w_call (passed_tri b (restL upto xs v.1, v.2) hrl) h fun r w h => ?_
      obtain ⟨hr2, h⟩ := h.purP
      exact Own.retP ⟨hr2, rfl⟩ h.fin
theorem pc_one_tri (x : Pc) : Tri Try.prog 54 [.agg (Ks.mk K_u6b3 x), .agg (Ks.mk K_u6b3 x)] [.lf .bool] emp (fun r => pur (r = true) emp) :=
  tri_0 (call_canterhelp_Plain_apiPiece_c1 x x) fun w S R h => by
    unfold W_canterhelp_Plain_apiPiece_c1
    refine w_new h fun n1 w h => ?_
    refine w_new h fun n2 w h => ?_
    refine w_ldAll h rfl ?_
    refine w_ldAll h rfl ?_
    exact Own.retP (by simp) h.fin
theorem pc_same_tri (a b : Sl) (one : Fv) (xs : List (Ks.T K_u6b3)) (hl : xs.length ≤ 4294967296) (hf : ∀ x ∈ xs, TriV Try.prog one [.agg (Ks.mk K_u6b3 x), .agg (Ks.mk K_u6b3 x)] [.lf .bool] emp (fun r => pur (r = true) emp)) :
    Tri Try.prog 53 [.lf (.sl a), .lf (.sl b), .lf (.fn one)] [.lf .bool] (emp ^ rarr a K_u6b3 xs ^ rarr b K_u6b3 xs) (fun r => pur (r = true) emp) :=
  tri_0 (call_canterhelp_Same_apiPiece _ _ _) fun w S R h => by
    unfold W_canterhelp_Same_apiPiece
    have ha := (h.rd (s := a)).2
    have hb := ((h.take (rarr b K_u6b3 xs)).rd (s := b)).2
    have h := h.drop
    refine w_ite (fun c => ?_) fun c => ?_
    · rw [ha, hb] at c; simp at c
    · refine w_loop (fun _ => rarr a K_u6b3 xs ^ rarr b K_u6b3 xs) (fun (y : Int) => 0 ≤ y ∧ y.toNat ≤ xs.length) (fun (y : Int) => xs.length - y.toNat) h ⟨Int.le_refl 0, Nat.zero_le _⟩ ?_
      rintro (i : Int) w ⟨h0, h1⟩ h
      refine w_ite (fun c => ?_) fun c => ?_
      · have hi : i.toNat < xs.length := by simp at c; omega
        refine w_drw h fun w h => ?_
        refine w_idx h h0 hi ?_
        have hb' := h.le (star_comm _ _)
        refine w_idx hb' h0 hi ?_
        refine w_ldE h a i.toNat (at_some hi) rfl ?_
        refine w_ldE hb' b i.toNat (at_some hi) rfl ?_
        refine w_callv (hf _ (List.getElem_mem hi)) h fun r w h => ?_
        obtain ⟨hr, h⟩ := h.purP
        refine w_ite (fun c => by rw [hr] at c; cases c) fun c => ?_
        rw [wi (by omega) (by omega)]
        exact ⟨⟨⟨by show (0 : Int) ≤ i + 1; omega, by show (i + 1).toNat ≤ _; omega⟩, h.fin⟩, by show _ - (i + 1).toNat < _; omega⟩
      · exact Own.retP rfl h.fin
theorem pc_plain_tri (a b : Sl) (xs : List (Ks.T K_u6b3)) (hl : xs.length ≤ 4294967296) :
    Tri Try.prog 21 [.lf (.sl a), .lf (.sl b)] [.lf .bool] (emp ^ rarr a K_u6b3 xs ^ rarr b K_u6b3 xs) (fun r => pur (r = true) emp) :=
  tri_0 (call_canterhelp_Plain_apiPiece _ _) fun w S R h => by
    unfold W_canterhelp_Plain_apiPiece
    refine w_call (pc_same_tri a b (.mk (.func 54) [] []) xs hl (fun x _ => (Tri.g (f := 54) (args := [.agg (Ks.mk K_u6b3 x), .agg (Ks.mk K_u6b3 x)]) (caps := []) (pc_one_tri x)).v)) h fun r w h => ?_
    exact h.keep

abbrev s0 : Snt := (0, 0, 0, 0, false)
theorem awake_tri : Tri Try.prog 14 [] [.lf .bool] emp (fun r => pur (r = true) emp) :=
  tri_0 call_canterlaw24_awake fun w S R h => by
    unfold W_canterlaw24_awake
    refine w_call new_tri h fun r1 w h => ?_
    obtain ⟨b, h⟩ := h.exP
    obtain ⟨hr1, h⟩ := h.purP
    rw [hr1]
    refine w_join h (fun _ => brd b ([mkPc 0 10 s0], 10)) (fun (y : Bool) => y = false) (fun (y : Bool) w hy h => ?_) ?_
    · refine w_ite (fun c => by rw [hy] at c; cases c) fun c => ?_
      have hm : mayF ([mkPc 0 10 s0], 10) 10 [] = true := by rfl
      refine w_callL (A := brd b ([mkPc 0 10 s0], 10)) (Q := rarr ⟨none, 0, 0⟩ KR []) (ack_tri b _ 10 ⟨none, 0, 0⟩ [] (by decide) (by decide) hm) h fun r w h => ?_
      obtain ⟨hr, h⟩ := h.purP
      obtain ⟨e1, e2⟩ := hr
      have et : toldL 10 [] [mkPc 0 10 s0] = [mkPc 0 10 s0] := by rfl
      have er : restL 10 [] [mkPc 0 10 s0] = [] := by rfl
      dsimp only at h e1 e2
      rw [et, er] at h
      have hlen := (h.rd (s := r.1)).2
      have h : Own _ _ _ _ ((arr r.1 K_u6b3 [mkPc 0 10 s0] ^ brd b ([], 10)) ^ emp) := h
      have h := h.take (brd b ([], 10))
      refine w_ite (fun c => ?_) fun c => ?_
      · refine w_call (flight_tri b ([], 10) (by decide)) h fun r7 w h => ?_
        obtain ⟨hr7, h⟩ := h.purP
        refine w_ite (fun c => ?_) fun c => ?_
        · refine w_call (end_tri b ([], 10)) h fun r8 w h => ?_
          obtain ⟨hr8, h⟩ := h.purP
          refine w_ite (fun c => ?_) fun c => ?_
          · refine w_call (all_tri b) h fun f w h => ?_
            obtain ⟨n, h⟩ := h.exP
            obtain ⟨hf, h⟩ := h.purP
            rw [hf]
            refine w_call (hall_tri (mkAll n) (blk n [.ptr (some ⟨b, 0⟩)] ^ brd b ([], 10)) [] 9 (all_iter n b ([], 10) (by decide)) rfl (by decide)) h fun r10 w h => ?_
            have hl := (h.rd (s := r10)).2
            refine Own.retP ?_ h.emp'
            rw [hl]; rfl
          · rw [hr8] at c; cases c
        · rw [hr7] at c; cases c
      · rw [e2, hlen] at c; cases c
    · refine w_ite (fun c => (by cases c)) fun c => ?_
      refine w_call (sent_tri b 0 10 s0 ([], 0)) h fun r4 w h => ?_
      obtain ⟨hr4, h⟩ := h.purP
      have e : sentF ([], 0) 0 10 s0 = (0, ([mkPc 0 10 s0], 10)) := by rfl
      rw [e] at hr4 h
      refine w_ite (fun c => by rw [hr4] at c; cases c) fun c => ?_
      refine w_call (flight_tri b ([mkPc 0 10 s0], 10) (by decide)) h fun r5 w h => ?_
      obtain ⟨hr5, h⟩ := h.purP
      refine ⟨?_, h.fin⟩
      rw [hr5]; rfl

abbrev KI : Ks := [.int .i64]
def okV (n : Int) (v : List Pc × Int) : Prop := 0 ≤ v.2 ∧ v.2 ≤ n * 5000 ∧ v.1.length ≤ n.toNat
theorem refuses_tri (d : Sl) (sizes : List (Ks.T KI)) (o a : Int) (ho : 0 ≤ o) :
    Tri Try.prog 3 [.lf (.sl d), .lf (.int .u64 o), .lf (.int .i64 a)] [.lf .bool] (rarr d KI sizes) (fun r => pur (r = true) emp) :=
  tri_0 (call_canterlaw24_BoardRefuses _ _ _) fun w S R h => by
    unfold W_canterlaw24_BoardRefuses
    have hd := (h.rd (s := d)).2
    refine w_call new_tri h fun r1 w h => ?_
    obtain ⟨b, h⟩ := h.exP
    obtain ⟨hr1, h⟩ := h.purP
    rw [hr1]
    refine w_call awake_tri h fun r2 w h => ?_
    obtain ⟨hr2, h⟩ := h.purP
    rw [hr2]
    refine w_ite (fun c => (by cases c)) fun c => ?_
    have h := ((h.take (brd b ([], 0))).toPur (p := okV 0 ([], 0)) ⟨by decide, by decide, by decide⟩).toEx (f := fun v => pur (okV 0 v) (brd b v)) ([], 0)
    have h := (h.take ((ex fun v => pur (okV 0 v) (brd b v)) ^ rarr d KI sizes)).keep
    refine w_loop (fun (y : Int) => (ex fun v => pur (okV y v) (brd b v)) ^ rarr d KI sizes) (fun (y : Int) => 0 ≤ y ∧ y ≤ 20) (fun (y : Int) => (20 - y).toNat) h ⟨by decide, by decide⟩ ?_
    rintro (i : Int) w ⟨h0, h1⟩ h
    obtain ⟨v, h⟩ := h.exP
    obtain ⟨hv, h⟩ := h.purP
    obtain ⟨v0, v1, v2⟩ := hv
    refine w_ite (fun c => ?_) fun c => ?_
    · have hc : i < sizes.length ∧ i < 20 := by simp at c; omega
      have hi : i.toNat < sizes.length := by omega
      have hw : IntKind.i64.wrap (i + 1) = i + 1 := wi (by omega) (by omega)
      refine w_drw h fun w h => ?_
      refine w_idx h h0 hi ?_
      refine w_ldE h d i.toNat (at_some hi) rfl ?_
      refine w_call (end_tri b v) h fun r7 w h => ?_
      obtain ⟨hr7, h⟩ := h.purP
      refine w_chkA h d i.toNat 0 _ (at_some hi) rfl (by decide) rfl ?_
      refine w_call (end_tri b v) h fun r8 w h => ?_
      obtain ⟨hr8, h⟩ := h.purP
      refine w_chkA h d i.toNat 0 _ (at_some hi) rfl (by decide) rfl ?_
      rw [hr7, hr8]
      obtain ⟨z, hz⟩ : ∃ z, z = (IntKind.u64.wrap sizes[i.toNat]).tmod 5000 := ⟨_, rfl⟩
      have hz1 : 0 ≤ z ∧ z < 5000 := by
        have := wu_range sizes[i.toNat]
        rw [hz]
        exact ⟨Int.tmod_nonneg _ this.1, Int.tmod_lt_of_pos _ (by decide)⟩
      have ht : IntKind.u64.wrap (IntKind.u64.wrap (v.2 + 1) + z) = v.2 + 1 + z := by
        rw [wu (n := v.2 + 1) (by omega) (by omega), wu (by omega) (by omega)]
      rw [← hz, ht]
      refine w_call (sent_tri b v.2 (v.2 + 1 + z) (IntKind.u64.wrap i, 0, 0, 0, false) v) h fun r9 w h => ?_
      obtain ⟨hr9, h⟩ := h.purP
      have e : (sentF v v.2 (v.2 + 1 + z) (IntKind.u64.wrap i, 0, 0, 0, false)).2 = (v.1 ++ [mkPc v.2 (v.2 + 1 + z) (IntKind.u64.wrap i, 0, 0, 0, false)], v.2 + 1 + z) := by
        rw [sentF, if_neg (by omega), if_neg (by omega)]
      rw [e] at h
      rw [hw]
      have h := (h.toPur (p := okV (i + 1) (v.1 ++ [mkPc v.2 (v.2 + 1 + z) (IntKind.u64.wrap i, 0, 0, 0, false)], v.2 + 1 + z)) ⟨by show 0 ≤ v.2 + 1 + z; omega, by show v.2 + 1 + z ≤ _; omega, by simp; omega⟩).toEx (f := fun v => pur (okV (i + 1) v) (brd b v)) _
      exact ⟨⟨⟨by show (0 : Int) ≤ i + 1; omega, by show i + 1 ≤ (20 : Int); omega⟩, h.fin⟩, by show (20 - (i + 1)).toNat < (20 - i).toNat; omega⟩
    · refine w_call (end_tri b v) h fun r10 w h => ?_
      obtain ⟨hr10, h⟩ := h.purP
      refine w_call (flight_tri b v (by omega)) h fun r11 w h => ?_
      obtain ⟨hr11, h⟩ := h.purP
      refine w_call (all_tri b) h fun r12 w h => ?_
      obtain ⟨n, h⟩ := h.exP
      obtain ⟨hr12, h⟩ := h.purP
      rw [hr12]
      refine w_call (hall_tri (mkAll n) (blk n [.ptr (some ⟨b, 0⟩)] ^ brd b v) v.1 99 (all_iter n b v (by omega)) rfl (by omega)) h fun r13 w h => ?_
      have h := (h.take (brd b v ^ arr r13 K_u6b3 (takeN v.1 99))).keep
      obtain ⟨m, hm⟩ : ∃ m, m = o.tmod 1099511627776 := ⟨_, rfl⟩
      have hm1 : 0 ≤ m ∧ m < 1099511627776 := by
        rw [hm]; exact ⟨Int.tmod_nonneg _ ho, Int.tmod_lt_of_pos _ (by decide)⟩
      have hmore : IntKind.u64.wrap (IntKind.u64.wrap (r10 + 1) + m) = v.2 + 1 + m := by
        rw [hr10, wu (n := v.2 + 1) (by omega) (by omega), wu (by omega) (by omega)]
      rw [← hm, hmore]
      have hmore2 : IntKind.u64.wrap (v.2 + 1 + m + 1) = v.2 + 1 + m + 1 := wu (by omega) (by omega)
      rw [hr10]
      refine w_join h (fun _ => brd b v ^ arr r13 K_u6b3 (takeN v.1 99)) (fun (y : Int × Int) => y.1 = y.2) (fun (y : Int × Int) w hy h => ?_) ?_
      · refine w_ite (fun c => ?_) fun c => ?_
        · refine w_call (end_tri b v) h fun r23 w h => ?_
          obtain ⟨hr23, h⟩ := h.purP
          refine w_ite (fun c => ?_) fun c => by rw [hr23] at c; simp at c
          refine w_call (flight_tri b v (by omega)) h fun r24 w h => ?_
          obtain ⟨hr24, h⟩ := h.purP
          refine w_ite (fun c => ?_) fun c => by rw [hr24, hr11] at c; simp at c
          refine w_call (all_tri b) h fun r25 w h => ?_
          obtain ⟨n2, h⟩ := h.exP
          obtain ⟨hr25, h⟩ := h.purP
          rw [hr25]
          refine w_call (hall_tri (mkAll n2) (blk n2 [.ptr (some ⟨b, 0⟩)] ^ brd b v) v.1 99 (all_iter n2 b v (by omega)) rfl (by omega)) h fun r26 w h => ?_
          refine w_callL (A := emp) (Q := rarr r26 K_u6b3 (takeN v.1 99) ^ rarr r13 K_u6b3 (takeN v.1 99)) (pc_plain_tri r26 r13 (takeN v.1 99) (by rw [takeN, List.length_take]; omega)) h fun r27 w h => ?_
          obtain ⟨hr27, h⟩ := h.purP
          exact Own.retP hr27 h.keep
        · rw [hy] at c; simp at c
      · refine w_ite (fun c => ?_) fun c => ?_
        · refine w_callL (A := brd b v) (Q := rarr ⟨none, 0, 0⟩ KR []) (ack_no_tri b v (v.2 + 1 + m) ⟨none, 0, 0⟩ [] (by decide) (by simp [mayF]; omega)) h fun r16 w h => ?_
          obtain ⟨hr16, h⟩ := h.purP
          exact ⟨hr16.2, h.fin⟩
        · refine w_ite (fun c => ?_) fun c => ?_
          · refine w_new h fun n17 w h => ?_
            have h := h.blkArr n17 KR [(v.2, v.2 + 1 + m)] rfl (by simp)
            refine w_callL (A := brd b v) (Q := rarr ⟨some ⟨n17, 0⟩, 1, 1⟩ KR [(v.2, v.2 + 1 + m)]) (ack_no_tri b v 0 ⟨some ⟨n17, 0⟩, 1, 1⟩ [(v.2, v.2 + 1 + m)] (by simp) (by simp [mayF, outF]; try omega)) h fun r16 w h => ?_
            obtain ⟨hr16, h⟩ := h.purP
            exact ⟨hr16.2, h.fin⟩
          · refine w_ite (fun c => ?_) fun c => ?_
            · refine w_new h fun n17 w h => ?_
              have h := h.blkArr n17 KR [(o, if v.2 < o then v.2 else o)] rfl (by simp)
              refine w_callL (A := brd b v) (Q := rarr ⟨some ⟨n17, 0⟩, 1, 1⟩ KR [(o, if v.2 < o then v.2 else o)]) (ack_no_tri b v v.2 ⟨some ⟨n17, 0⟩, 1, 1⟩ [(o, if v.2 < o then v.2 else o)] (by simp) (by simp [mayF, outF]; intro; split <;> omega)) h fun r16 w h => ?_
              obtain ⟨hr16, h⟩ := h.purP
              exact ⟨hr16.2, h.fin⟩
            · refine w_ite (fun c => ?_) fun c => ?_
              · rw [hmore2]
                refine w_call (sent_tri b (v.2 + 1 + m) (v.2 + 1 + m + 1) s0 v) h fun r21 w h => ?_
                obtain ⟨hr21, h⟩ := h.purP
                have e : sentF v (v.2 + 1 + m) (v.2 + 1 + m + 1) s0 = (1, v) := by rw [sentF, if_pos (by omega)]
                rw [e] at hr21 h
                exact ⟨hr21, h.fin⟩
              · refine w_call (sent_tri b v.2 v.2 s0 v) h fun r22 w h => ?_
                obtain ⟨hr22, h⟩ := h.purP
                have e : sentF v v.2 v.2 s0 = (1, v) := by rw [sentF, if_pos (by omega)]
                rw [e] at hr22 h
                exact ⟨hr22, h.fin⟩
def pK (z : Int) (k : Nat) : Pc := mkPc ((k : Int) * z) (((k : Int) + 1) * z) ((k : Int), 0, 0, 0, false)
def LF (z : Int) (i : Int) : List Pc × Int := ((List.range i.toNat).map (pK z), i * z)
theorem LF_step {z i : Int} (hz : 0 < z) (h0 : 0 ≤ i) (h1 : i < 3) : sentF (LF z i) (i * z) ((i + 1) * z) (i, 0, 0, 0, false) = (0, LF z (i + 1)) := by
  have hi : ((i.toNat : Nat) : Int) = i := Int.toNat_of_nonneg h0
  have ht : (i + 1) * z = i * z + z := by rw [Int.add_mul, Int.one_mul]
  have hn : (i + 1).toNat = i.toNat + 1 := by omega
  rw [sentF, if_neg (by show ¬ (i * z ≠ i * z ∨ (i + 1) * z ≤ i * z); omega), if_neg (by simp [LF]; omega)]
  simp only [LF, hn, List.range_succ, List.map_append, List.map_cons, List.map_nil, pK, hi]
def c1 (z y : Int) : List (Int × Int) := [(z + 1, 2 * z + y), (2 * z + 1, 3 * z)]
def c2 (z y : Int) : List (Int × Int) := [(z, 2 * z + y)]
abbrev q1 (z : Int) : Pc := setSk (pK z 1)
theorem cuts_tri (d o : Int) (hd : 0 ≤ d) (ho : 0 ≤ o) : Tri Try.prog 4 [.lf (.int .u64 d), .lf (.int .u64 o)] [.lf .bool] emp (fun r => pur (r = true) emp) :=
  tri_0 (call_canterlaw24_BoardCuts _ _) fun w S R h => by
    unfold W_canterlaw24_BoardCuts
    obtain ⟨z, hz⟩ : ∃ z, z = IntKind.u64.wrap (3 + d.tmod 5000) := ⟨_, rfl⟩
    have hm := Int.tmod_nonneg 5000 hd
    have hm2 := Int.tmod_lt_of_pos d (show (0 : Int) < 5000 by decide)
    have hz1 : 3 ≤ z ∧ z ≤ 5002 := by rw [wu (by omega) (by omega)] at hz; omega
    rw [← hz]
    have hzm : IntKind.u64.wrap (z - 1) = z - 1 := wu (by omega) (by omega)
    rw [hzm]
    have hk := Int.tmod_nonneg (z - 1) ho
    have hk2 := Int.tmod_lt_of_pos o (show (0 : Int) < z - 1 by omega)
    obtain ⟨y, hy⟩ : ∃ y, y = IntKind.u64.wrap (1 + o.tmod (z - 1)) := ⟨_, rfl⟩
    have hy1 : 1 ≤ y ∧ y ≤ z - 1 := by rw [wu (by omega) (by omega)] at hy; omega
    rw [← hy]
    have e1 : IntKind.u64.wrap (z + 1) = z + 1 := wu (by omega) (by omega)
    have e2 : IntKind.u64.wrap (2 * z) = 2 * z := wu (by omega) (by omega)
    have e3 : IntKind.u64.wrap (2 * z + y) = 2 * z + y := wu (by omega) (by omega)
    have e4 : IntKind.u64.wrap (2 * z + 1) = 2 * z + 1 := wu (by omega) (by omega)
    have e5 : IntKind.u64.wrap (3 * z) = 3 * z := wu (by omega) (by omega)
    rw [e1, e2, e3, e4, e5]
    -- the pieces
    have L3 : LF z 3 = ([pK z 0, pK z 1, pK z 2], 3 * z) := rfl
    have f0 : pK z 0 = (0, z, 0, 0, 0, 0, false, false, false) := by simp [pK, mkPc]
    have f1 : pK z 1 = (z, 2 * z, 1, 0, 0, 0, false, false, false) := by simp [pK, mkPc]
    have f2 : pK z 2 = (2 * z, 3 * z, 2, 0, 0, 0, false, false, false) := by simp [pK, mkPc]
    have g1 : q1 z = (z, 2 * z, 1, 0, 0, 0, false, true, false) := by rw [q1, f1]; rfl
    have m1 : mayF (LF z 3) y (c1 z y) = true := by simp [L3, mayF, c1, outF]; omega
    have t10 : toldP y (c1 z y) (pK z 0) = false := by simp [f0, toldP, c1, inF, pSk]; omega
    have t11 : toldP y (c1 z y) (pK z 1) = false := by simp [f1, toldP, c1, inF, pSk]; omega
    have t12 : toldP y (c1 z y) (pK z 2) = false := by simp [f2, toldP, c1, inF, pSk]; omega
    have a1 : toldL y (c1 z y) (LF z 3).1 = [] := by simp [L3, toldL, t10, t11, t12]
    have b1 : restL y (c1 z y) (LF z 3).1 = (LF z 3).1 := by
      have n0 : ¬ (pK z 0).2.1 ≤ y := by rw [f0]; show ¬ z ≤ y; omega
      have n1 : ¬ (pK z 1).2.1 ≤ y := by rw [f1]; show ¬ 2 * z ≤ y; omega
      have n2 : ¬ (pK z 2).2.1 ≤ y := by rw [f2]; show ¬ 3 * z ≤ y; omega
      simp [L3, restL, n0, n1, n2, markP, t10, t11, t12]
    have pp1 : passF (LF z 3).1 = ((LF z 3).1, 0, 0) := by
      rw [L3, f0, f1, f2]; simp [passF, hitF, abvF, pSk]
    have m2 : mayF (LF z 3) y (c2 z y) = true := by simp [L3, mayF, c2, outF]; omega
    have t20 : toldP y (c2 z y) (pK z 0) = false := by simp [f0, toldP, c2, inF, pSk]; omega
    have t21 : toldP y (c2 z y) (pK z 1) = true := by simp [f1, toldP, c2, inF, pSk]; omega
    have t22 : toldP y (c2 z y) (pK z 2) = false := by simp [f2, toldP, c2, inF, pSk]; try omega
    have a2 : toldL y (c2 z y) (LF z 3).1 = [pK z 1] := by simp [L3, toldL, t20, t21, t22]
    have b2 : restL y (c2 z y) (LF z 3).1 = [pK z 0, q1 z, pK z 2] := by
      have n0 : ¬ (pK z 0).2.1 ≤ y := by rw [f0]; show ¬ z ≤ y; omega
      have n1 : ¬ (pK z 1).2.1 ≤ y := by rw [f1]; show ¬ 2 * z ≤ y; omega
      have n2 : ¬ (pK z 2).2.1 ≤ y := by rw [f2]; show ¬ 3 * z ≤ y; omega
      simp [L3, restL, n0, n1, n2, markP, t20, t21, t22]
    have pp2 : (passF [pK z 0, q1 z, pK z 2]).1 = [pK z 0, q1 z, pK z 2] := by
      rw [f0, g1, f2]; simp [passF, hitF, abvF, pSk, wi]
    have m3 : mayF ([pK z 0, q1 z, pK z 2], 3 * z) (2 * z + y) [] = true := by simp [mayF]; omega
    have a3 : toldL (2 * z + y) [] [pK z 0, q1 z, pK z 2] = [pK z 0] := by
      have n0 : toldP (2 * z + y) [] (pK z 0) = true := by
        have e : decide (z ≤ 2 * z + y) = true := decide_eq_true (by omega)
        rw [f0]
        show (!false && (decide (z ≤ 2 * z + y) || [].any _)) = true
        rw [e]; rfl
      have n1 : toldP (2 * z + y) [] (q1 z) = false := by rw [g1]; simp [toldP, pSk]
      have n2 : toldP (2 * z + y) [] (pK z 2) = false := by rw [f2]; simp [toldP, pSk]; omega
      simp [toldL, n0, n1, n2]
    have b3 : restL (2 * z + y) [] [pK z 0, q1 z, pK z 2] = [pK z 2] := by
      have n0 : (pK z 0).2.1 ≤ 2 * z + y := by rw [f0]; show z ≤ 2 * z + y; omega
      have n1 : (q1 z).2.1 ≤ 2 * z + y := by rw [g1]; show 2 * z ≤ 2 * z + y; omega
      have n2 : ¬ (pK z 2).2.1 ≤ 2 * z + y := by rw [f2]; show ¬ 3 * z ≤ 2 * z + y; omega
      have t : toldP (2 * z + y) [] (pK z 2) = false := by rw [f2]; simp [toldP, pSk]; omega
      simp [restL, n0, n1, n2, markP, t]
    have pp3 : (passF [pK z 2]).1 = [pK z 2] := by rw [f2]; simp [passF, hitF, abvF, pSk]
    have fl3 : flightF (LF z 3).1 = 3 * z := by
      rw [L3, f0, f1, f2]
      simp [flightF, addF, flyP, pSk, pLo, pTo, pFrom]
      rw [wu (n := z) (by omega) (by omega), wu (n := 2 * z - z) (by omega) (by omega), wu (n := 3 * z - 2 * z) (by omega) (by omega), wu (n := z) (by omega) (by omega), wu (n := z + (2 * z - z)) (by omega) (by omega), wu (by omega) (by omega)]
      omega
    have fl4 : flightF [pK z 2] = z := by
      rw [f2]; simp [flightF, addF, flyP, pSk, pLo, pTo, pFrom]
      rw [wu (n := 3 * z - 2 * z) (by omega) (by omega), wu (by omega) (by omega)]; omega
    refine ⟨by omega, ?_⟩
    refine w_call new_tri h fun r1 w h => ?_
    obtain ⟨b, h⟩ := h.exP
    obtain ⟨hr1, h⟩ := h.purP
    rw [hr1]
    refine w_call awake_tri h fun r2 w h => ?_
    obtain ⟨hr2, h⟩ := h.purP
    rw [hr2]
    refine w_ite (fun c => (by cases c)) fun c => ?_
    have h := (h.take (brd b ([], 0))).keep
    have hL0 : LF z 0 = ([], 0) := by simp [LF]
    rw [← hL0] at h
    refine w_loop (fun (i : Int) => brd b (LF z i)) (fun (i : Int) => 0 ≤ i ∧ i ≤ 3) (fun (i : Int) => (3 - i).toNat) h ⟨by decide, by decide⟩ ?_
    rintro (i : Int) w ⟨h0, h1⟩ h
    refine w_ite (fun c => ?_) fun c => ?_
    · have hi : i < 3 := by simpa using c
      have hb : (0 ≤ i * z ∧ i * z ≤ 15006) ∧ 0 ≤ (i + 1) * z ∧ (i + 1) * z ≤ 15006 := by
        have : i = 0 ∨ i = 1 ∨ i = 2 := by omega
        rcases this with e | e | e <;> rw [e] <;> omega
      rw [wu (n := i * z) (by omega) (by omega), wu (n := i + 1) (by omega) (by omega), wu (n := (i + 1) * z) (by omega) (by omega)]
      refine w_call (sent_tri b (i * z) ((i + 1) * z) (i, 0, 0, 0, false) (LF z i)) h fun r w h => ?_
      obtain ⟨hr, h⟩ := h.purP
      rw [LF_step (by omega) h0 hi] at h
      exact ⟨⟨⟨by show (0 : Int) ≤ i + 1; omega, by show i + 1 ≤ (3 : Int); omega⟩, h.fin⟩, by show (3 - (i + 1)).toNat < (3 - i).toNat; omega⟩
    · have hi : i = 3 := by simp at c; omega
      rw [hi] at h
      have hll : (LF z 3).1.length = 3 := rfl
      refine w_call (all_tri b) h fun r6 w h => ?_
      obtain ⟨n, h⟩ := h.exP
      obtain ⟨hr6, h⟩ := h.purP
      rw [hr6]
      refine w_call (hall_tri (mkAll n) (blk n [.ptr (some ⟨b, 0⟩)] ^ brd b (LF z 3)) (LF z 3).1 9 (all_iter n b (LF z 3) (by omega)) rfl (by omega)) h fun r7 w h => ?_
      have h9 : takeN (LF z 3).1 9 = (LF z 3).1 := by rfl
      rw [h9] at h
      have h := (h.take (brd b (LF z 3) ^ arr r7 K_u6b3 (LF z 3).1)).keep
      refine w_new h fun n8 w h => ?_
      have h := h.blkArr n8 KR (c1 z y) rfl (by simp [c1])
      have h : Own _ _ _ _ (arr ⟨some ⟨n8, 0⟩, 2, 2⟩ KR (c1 z y) ^ _) := h
      have tr1 := ack_tri b (LF z 3) y ⟨some ⟨n8, 0⟩, 2, 2⟩ (c1 z y) (by omega) (by simp [c1]) m1
      rw [a1, b1, pp1] at tr1
      refine w_callL (A := brd b (LF z 3)) (Q := rarr ⟨some ⟨n8, 0⟩, 2, 2⟩ KR (c1 z y)) tr1 h fun r9 w h => ?_
      obtain ⟨hr9, h⟩ := h.purP
      have hlen := (h.rd (s := r9.1)).2
      have h : Own _ _ _ _ ((arr r9.1 K_u6b3 [] ^ brd b (LF z 3)) ^ _) := h
      have h := (h.take (brd b (LF z 3) ^ arr r7 K_u6b3 (LF z 3).1)).keep
      refine w_join h (fun _ => brd b (LF z 3) ^ arr r7 K_u6b3 (LF z 3).1) (fun (x : Bool) => x = false) (fun (x : Bool) w hx h => ?_) ?_
      · refine w_ite (fun c => by rw [hx] at c; cases c) fun c => ?_
        refine w_new h fun n16 w h => ?_
        have h := h.blkArr n16 KR (c2 z y) rfl (by simp [c2])
        have h : Own _ _ _ _ (arr ⟨some ⟨n16, 0⟩, 1, 1⟩ KR (c2 z y) ^ _) := h
        have tr2 := ack_tri b (LF z 3) y ⟨some ⟨n16, 0⟩, 1, 1⟩ (c2 z y) (by omega) (by simp [c2]) m2
        rw [a2, b2, pp2] at tr2
        refine w_callL (A := brd b (LF z 3)) (Q := rarr ⟨some ⟨n16, 0⟩, 1, 1⟩ KR (c2 z y)) tr2 h fun r17 w h => ?_
        obtain ⟨hr17, h⟩ := h.purP
        have h : Own _ _ _ _ ((arr r17.1 K_u6b3 [pK z 1] ^ brd b ([pK z 0, q1 z, pK z 2], 3 * z)) ^ _) := h
        have h := (h.take (brd b ([pK z 0, q1 z, pK z 2], 3 * z) ^ arr r7 K_u6b3 (LF z 3).1 ^ arr r17.1 K_u6b3 [pK z 1])).keep
        have tr3 := ack_tri b ([pK z 0, q1 z, pK z 2], 3 * z) (2 * z + y) ⟨none, 0, 0⟩ [] (by simp) (by simp) m3
        dsimp only at tr3
        rw [a3, b3, pp3] at tr3
        refine w_callL (A := brd b ([pK z 0, q1 z, pK z 2], 3 * z)) (Q := rarr ⟨none, 0, 0⟩ KR []) tr3 h fun r18 w h => ?_
        obtain ⟨hr18, h⟩ := h.purP
        have hl17 := ((h.take (arr r17.1 K_u6b3 [pK z 1])).rd (s := r17.1)).2
        have hl18 := (h.rd (s := r18.1)).2
        refine w_drw h fun w h => ?_
        refine w_ite (fun c => ?_) fun c => by rw [hr17.2] at c; cases c
        refine w_ite (fun c => ?_) fun c => by rw [hl17] at c; cases c
        have h17 := h.take (arr r17.1 K_u6b3 [pK z 1])
        have h7 := h.take (arr r7 K_u6b3 (LF z 3).1)
        refine w_idx (s := r17.1) h17 (by decide) (by show 0 < 1; decide) ?_
        refine w_idx (s := r7) h7 (by decide) (by show 1 < 3; decide) ?_
        refine w_ldE h17 r17.1 0 (y := pK z 1) rfl rfl ?_
        refine w_ldE h7 r7 1 (y := pK z 1) rfl rfl ?_
        refine w_ite (fun c => ?_) fun c => by simp at c
        refine w_ite (fun c => ?_) fun c => by rw [hr18.2] at c; cases c
        refine w_ite (fun c => ?_) fun c => by rw [hl18] at c; cases c
        have h18 := h.take (arr r18.1 K_u6b3 [pK z 0])
        refine w_idx (s := r18.1) h18 (by decide) (by show 0 < 1; decide) ?_
        refine w_idx (s := r7) h7 (by decide) (by show 0 < 3; decide) ?_
        refine w_ldE h18 r18.1 0 (y := pK z 0) rfl rfl ?_
        refine w_ldE h7 r7 0 (y := pK z 0) rfl rfl ?_
        refine w_ite (fun c => ?_) fun c => by simp at c
        refine w_call (flight_tri b ([pK z 2], 3 * z) (by simp)) h fun r27 w h => ?_
        obtain ⟨hr27, h⟩ := h.purP
        refine Own.retP ?_ h.emp'
        rw [hr27]; show (flightF [pK z 2] == z) = true
        rw [fl4]; simp
      · refine w_ite (fun c => ?_) fun c => ?_
        · rw [hr9.1, hr9.2, hlen] at c; cases c
        · refine w_call (all_tri b) h fun r12 w h => ?_
          obtain ⟨n2, h⟩ := h.exP
          obtain ⟨hr12, h⟩ := h.purP
          rw [hr12]
          refine w_call (hall_tri (mkAll n2) (blk n2 [.ptr (some ⟨b, 0⟩)] ^ brd b (LF z 3)) (LF z 3).1 9 (all_iter n2 b (LF z 3) (by omega)) rfl (by omega)) h fun r13 w h => ?_
          rw [h9] at h
          refine w_callL (A := emp) (Q := rarr r13 K_u6b3 (LF z 3).1 ^ rarr r7 K_u6b3 (LF z 3).1) (pc_plain_tri r13 r7 (LF z 3).1 (by omega)) h fun r14 w h => ?_
          obtain ⟨hr14, h⟩ := h.purP
          refine w_ite (fun c => by rw [hr14] at c; cases c) fun c => ?_
          refine w_call (flight_tri b (LF z 3) (by omega)) h fun r15 w h => ?_
          obtain ⟨hr15, h⟩ := h.purP
          refine ⟨?_, h.fin⟩
          rw [hr15, fl3]; simp
def loseP (p : Pc) : Pc := if flyP p then setLo p true else p
theorem lose_tri (b : Nat) (v : List Pc × Int) (hl : v.1.length ≤ 4294967296) : Tri Try.prog 44 [.lf (.ptr (some ⟨b, 0⟩))] [.lf (.int .u64)] (brd b v) (fun r => pur (r = flightF v.1) (brd b (v.1.map loseP, v.2))) :=
  tri_0 (call_board_Board_Lose _) fun w S R h => by
    unfold W_board_Board_Lose
    refine w_ite (fun c => (by cases c)) fun c => ?_
    obtain ⟨s, h⟩ := h.brd b
    have hs := (h.rd (s := s)).2
    refine w_deref (w_ld h rfl ?_)
    have h := (h.take (blk b [.sl s, .int .u64 v.2] ^ arr s K_u6b3 v.1)).keep
    refine w_loop (fun (y : Int × Int) => blk b [.sl s, .int .u64 v.2] ^ arr s K_u6b3 ((v.1.take y.2.toNat).map loseP ++ v.1.drop y.2.toNat)) (fun (y : Int × Int) => (0 ≤ y.2 ∧ y.2.toNat ≤ v.1.length) ∧ y.1 = flightF (v.1.take y.2.toNat)) (fun (y : Int × Int) => v.1.length - y.2.toNat) h ⟨⟨Int.le_refl 0, Nat.zero_le _⟩, rfl⟩ ?_
    rintro (⟨t, i⟩ : Int × Int) w ⟨⟨h0, h1⟩, h2⟩ h
    dsimp only at h0 h1 h2 h ⊢
    obtain ⟨xs, hxs⟩ : ∃ xs, xs = (v.1.take i.toNat).map loseP ++ v.1.drop i.toNat := ⟨_, rfl⟩
    rw [← hxs] at h
    have hxl : xs.length = v.1.length := by rw [hxs]; simp; omega
    refine w_ite (fun c => ?_) fun c => ?_
    · have hi : i.toNat < v.1.length := by simp at c; omega
      obtain ⟨p, hp⟩ : ∃ p, v.1[i.toNat]? = some p := ⟨_, at_some hi⟩
      have hml : ((v.1.take i.toNat).map loseP).length = i.toNat := by simp; omega
      have hxp : xs[i.toNat]? = some p := by
        rw [hxs, List.getElem?_append_right (by omega), hml, drop_at hp]; simp
      have hw : IntKind.i64.wrap (i + 1) = i + 1 := wi (by omega) (by omega)
      have hi1 : (i + 1).toNat = i.toNat + 1 := by omega
      have hset : (v.1.take (i.toNat + 1)).map loseP ++ v.1.drop (i.toNat + 1) = xs.set i.toNat (loseP p) := by
        rw [hxs, List.set_append_right _ _ (by omega), hml, drop_at hp, List.take_add_one, hp]; simp
      have hft := flight_take hp
      refine w_idx h h0 (by omega) ?_
      refine w_ldE h s i.toNat hxp rfl ?_
      refine w_new h fun n7 w h => ?_
      refine w_setAll h (by rfl) fun w h => ?_
      refine w_ldAll h rfl ?_
      refine w_call (flying_tri p) h fun r w h => ?_
      obtain ⟨hr, h⟩ := h.purP
      refine w_ite (fun c2 => ?_) fun c2 => ?_
      · have hf : flyP p = true := by rw [← hr]; exact c2
        refine w_deref (w_ld h rfl ?_)
        refine w_idx h h0 (by omega) ?_
        refine w_stA h s i.toNat 8 p (setLo p true) hxp rfl (by decide) (by simp) rfl fun w h => ?_
        refine w_ld h rfl ?_
        refine w_ld h rfl ?_
        rw [hw]
        have hlp : loseP p = setLo p true := by rw [loseP, if_pos hf]
        refine ⟨⟨⟨⟨by show (0 : Int) ≤ i + 1; omega, by show (i + 1).toNat ≤ _; omega⟩, ?_⟩, ?_⟩, by show _ - (i + 1).toNat < _; omega⟩
        · show _ = flightF (v.1.take (i + 1).toNat)
          rw [hi1, hft, addF, if_pos hf, h2]
        · show Own _ _ _ _ (blk b [.sl s, .int .u64 v.2] ^ arr s K_u6b3 ((v.1.take (i + 1).toNat).map loseP ++ v.1.drop (i + 1).toNat))
          rw [hi1, hset, hlp]
          exact h.fin
      · have hf : flyP p = false := by rw [← hr]; exact c2
        rw [hw]
        have hlp : loseP p = p := by rw [loseP, if_neg (by rw [hf]; simp)]
        refine ⟨⟨⟨⟨by show (0 : Int) ≤ i + 1; omega, by show (i + 1).toNat ≤ _; omega⟩, ?_⟩, ?_⟩, by show _ - (i + 1).toNat < _; omega⟩
        · show t = flightF (v.1.take (i + 1).toNat)
          rw [hi1, hft, addF, if_neg (by rw [hf]; simp), h2]
        · show Own _ _ _ _ (blk b [.sl s, .int .u64 v.2] ^ arr s K_u6b3 ((v.1.take (i + 1).toNat).map loseP ++ v.1.drop (i + 1).toNat))
          have hself : xs.set i.toNat p = xs := by
            obtain ⟨hl2, he⟩ := List.getElem?_eq_some_iff.1 hxp
            rw [← he]; exact List.set_getElem_self hl2
          rw [hi1, hset, hlp, hself]
          exact h.fin
    · have hi : i.toNat = v.1.length := by simp at c; omega
      rw [hi] at h2 hxs
      simp at hxs h2
      rw [hxs] at h
      exact Own.retP h2 (h.mkBrd b s (v.1.map loseP) v.2).fin
theorem lost_tri (b : Nat) (v : List Pc × Int) (hl : v.1.length ≤ 4294967296) : Tri Try.prog 63 [.lf (.ptr (some ⟨b, 0⟩))] [.lf (.int .i64)] (brd b v) (fun r => pur (r = fI pLo v.1) (brd b v)) :=
  tri_n (W := fun n R => W_board_Board_lost n (some ⟨b, 0⟩) R) (call_board_Board_lost _) fun w S R h => by
    unfold W_board_Board_lost
    refine w_new h fun n1 w h => ?_
    refine w_new h fun n2 w h => ?_
    refine w_set h rfl fun w h => ?_
    dsimp only [upd, over] at h
    refine w_call (all_tri b) (h.le (star_emp _)) fun f w h => ?_
    obtain ⟨n, h⟩ := h.exP
    obtain ⟨hf, h⟩ := h.purP
    rw [hf]
    have h := (h.take (blk n1 [.int .i64 0] ^ blk n2 [.int .i64 ((0 : Nat) : Int)])).toPur (p := ∀ j y, j < 0 → v.1[j]? = some y → pLo y = false) (fun j y hj => by omega)
    refine w_range (all_iter n b v hl) (fun i => pur (∀ j y, j < i → v.1[j]? = some y → pLo y = false) (blk n1 [.int .i64 0] ^ blk n2 [.int .i64 (i : Int)])) (fun j => pur (j = 1) (blk n1 [.int .i64 (fI pLo v.1)])) h ?_ ?_ ?_
    · intro i x hx w S R mid next jump rdy bsy hmid hnext hjump h
      have hi : i < v.1.length := (List.getElem?_eq_some_iff.1 hx).1
      refine w_new h fun n8 w h => ?_
      refine w_setAll h (by rfl) fun w h => ?_
      refine hmid h fun w h => ?_
      have h := h.take (pur (∀ j y, j < i → v.1[j]? = some y → pLo y = false) (blk n1 [.int .i64 0] ^ blk n2 [.int .i64 (i : Int)]))
      obtain ⟨hno, h⟩ := h.purP
      refine w_ld h rfl ?_
      refine w_ite (fun c => ?_) fun c => ?_
      · refine w_ld h rfl ?_
        refine w_set h rfl fun w h => ?_
        dsimp only [upd, over] at h
        have e : fI pLo v.1 = (i : Int) := fI_at hx c hno
        rw [← e] at h
        have h := (h.take (blk n1 [.int .i64 (fI pLo v.1)])).toPur (p := 1 = 1) rfl
        exact hjump 1 (by decide) h
      · refine w_ld h rfl ?_
        refine w_set h rfl fun w h => ?_
        dsimp only [upd, over] at h
        rw [wi (by omega) (by omega)] at h
        have h : Own _ _ _ _ (blk n2 [.int .i64 ((i + 1 : Nat) : Int)] ^ _) := h
        have h := (h.take (blk n1 [.int .i64 0] ^ blk n2 [.int .i64 ((i + 1 : Nat) : Int)])).toPur (p := ∀ j y, j < i + 1 → v.1[j]? = some y → pLo y = false) (fun j y hj hy => by
          by_cases hji : j = i
          · rw [hji, hx] at hy; cases hy; exact c
          · exact hno j y (by omega) hy)
        exact hnext h
    · intro w h
      have h := h.take (pur (∀ j y, j < v.1.length → v.1[j]? = some y → pLo y = false) (blk n1 [.int .i64 0] ^ blk n2 [.int .i64 (v.1.length : Int)]))
      obtain ⟨hno, h⟩ := h.purP
      refine w_set h rfl fun w h => ?_
      dsimp only [upd, over] at h
      refine w_ld h rfl ?_
      refine w_leave h fun w h => ?_
      refine Own.retP ?_ h.fin
      rw [fI_none]
      intro y hy
      obtain ⟨j, hj, rfl⟩ := List.mem_iff_getElem.1 hy
      exact hno j _ hj (at_some hj)
    · intro j w hj h
      have h := h.take (pur (j = 1) (blk n1 [.int .i64 (fI pLo v.1)]))
      obtain ⟨hj1, h⟩ := h.purP
      rw [hj1]
      refine w_ld h rfl ?_
      refine w_leave h fun w h => ?_
      exact Own.retP rfl h.fin
theorem fI_some {α : Type} {p : α → Bool} {xs : List α} (h : 0 ≤ fI p xs) : ∃ x, xs[(fI p xs).toNat]? = some x ∧ p x = true ∧ (fI p xs).toNat < xs.length ∧ ((fI p xs).toNat : Int) = fI p xs := by
  unfold fI at h ⊢
  cases hf : xs.findIdx? p with
  | none => rw [hf] at h; simp at h
  | some i =>
    obtain ⟨hl, hp, _⟩ := List.findIdx?_eq_some_iff_getElem.1 hf
    exact ⟨xs[i], by simp [hl], hp, by simpa using hl, by simp⟩
/-- The first one that is lost. -/
def lostF (l : List Pc) : (Int × Int) × Bool := match l[(fI pLo l).toNat]? with
  | some p => if fI pLo l < 0 then ((0, 0), false) else ((p.1, p.2.1), true)
  | none => ((0, 0), false)
theorem lostF_no {l : List Pc} (h : fI pLo l < 0) : lostF l = ((0, 0), false) := by
  unfold lostF
  split
  · rw [if_pos h]
  · rfl
theorem lostF_yes {l : List Pc} {p : Pc} (h : 0 ≤ fI pLo l) (hp : l[(fI pLo l).toNat]? = some p) : lostF l = ((p.1, p.2.1), true) := by
  unfold lostF
  rw [hp]
  simp only
  rw [if_neg (by omega)]
theorem Lost_tri (b : Nat) (v : List Pc × Int) (hl : v.1.length ≤ 4294967296) : Tri Try.prog 39 [.lf (.ptr (some ⟨b, 0⟩))] [.agg KR, .lf .bool] (brd b v) (fun r => pur (r = lostF v.1) (brd b v)) :=
  tri_0 (call_board_Board_Lost _) fun w S R h => by
    unfold W_board_Board_Lost
    refine w_new h fun n1 w h => ?_
    refine w_call (lost_tri b v hl) h fun r w h => ?_
    obtain ⟨hr, h⟩ := h.purP
    rw [hr]
    refine w_ite (fun c => ?_) fun c => ?_
    · refine w_set h rfl fun w h => ?_
      dsimp only [upd, over] at h
      refine w_ldAll (x := (0, 0)) h rfl ?_
      exact Own.retP (lostF_no (by simpa using c)).symm h.fin
    · have c : 0 ≤ fI pLo v.1 := by simpa using c
      obtain ⟨p, hp, hpl, hlt, _⟩ := fI_some c
      refine w_drw h fun w h => ?_
      obtain ⟨s, h⟩ := h.brd b
      refine w_deref (w_deref (w_ld h rfl (w_ld h rfl ?_)))
      refine w_idx h c hlt ?_
      refine w_idx h c hlt ?_
      refine w_ldA h s _ 0 p hp rfl (by decide) rfl ?_
      refine w_ldA h s _ 1 p hp rfl (by decide) rfl ?_
      refine w_set h rfl fun w h => ?_
      dsimp only [upd, over] at h
      refine w_ldAll (x := (p.1, p.2.1)) h rfl ?_
      exact Own.retP (lostF_yes c hp).symm (h.mkBrd b s v.1 v.2).fin
theorem all_iterS (n b : Nat) (s : Sl) (v : List Pc × Int) (hl : v.1.length ≤ 4294967296) : Iter Try.prog (mkAll n) (blk n [.ptr (some ⟨b, 0⟩)] ^ blk b [.sl s, .int .u64 v.2] ^ arr s K_u6b3 v.1) [.agg K_u6b3] v.1 := by
  intro y I D hy
  refine Tri.g (f := 49) (args := [.lf (.fn y)]) (caps := [.lf (.ptr (some ⟨n, 0⟩))]) (tri_0 (call_board_Board_All_c1 y ⟨n, 0⟩) fun w S R h => ?_)
  unfold W_board_Board_All_c1
  refine w_ld h rfl ?_
  refine w_ite (fun c => (by cases c)) fun c => ?_
  refine w_ld h rfl ?_
  have hs := (h.rd (s := s)).2
  refine w_deref (w_ld h rfl ?_)
  have h : Own _ _ _ _ (blk b [.sl s, .int .u64 v.2] ^ arr s K_u6b3 v.1 ^ blk n [.ptr (some ⟨b, 0⟩)] ^ I 0) := h.fin
  refine w_loop (fun (y : Int) => blk b [.sl s, .int .u64 v.2] ^ arr s K_u6b3 v.1 ^ blk n [.ptr (some ⟨b, 0⟩)] ^ I y.toNat) (fun (y : Int) => 0 ≤ y ∧ y.toNat ≤ v.1.length) (fun (y : Int) => v.1.length - y.toNat) h ⟨Int.le_refl 0, by simp⟩ ?_
  rintro (i : Int) w ⟨h0, h1⟩ h
  refine w_ite (fun c => ?_) fun c => ?_
  · have hi : i.toNat < v.1.length := by simp at c; omega
    refine w_idx h h0 hi ?_
    refine w_ldE h s i.toNat (at_some hi) rfl ?_
    refine w_new h fun n9 w h => ?_
    refine w_setAll h (by rfl) fun w h => ?_
    refine w_ldAll h rfl ?_
    refine w_callv (hy i.toNat _ (at_some hi)) h fun r w h => ?_
    refine w_ite (fun c => ?_) fun c => ?_
    · have hr : r = false := by simpa using c
      rw [hr] at h
      have h : Own _ _ _ _ (D ^ _) := h
      have h := h.eitherR (I v.1.length)
      exact h.fin
    · have hr : r = true := by simpa using c
      rw [hr] at h
      have h : Own _ _ _ _ (I (i.toNat + 1) ^ _) := h
      rw [wi (by omega) (by omega)]
      have e : (i + 1).toNat = i.toNat + 1 := by omega
      refine ⟨⟨⟨(by show (0 : Int) ≤ i + 1; omega), (by show (i + 1).toNat ≤ _; omega)⟩, ?_⟩, (by show _ - (i + 1).toNat < _; omega)⟩
      show Own _ _ _ _ (blk b [.sl s, .int .u64 v.2] ^ arr s K_u6b3 v.1 ^ blk n [.ptr (some ⟨b, 0⟩)] ^ I (i + 1).toNat)
      rw [e]
      exact h.fin
  · have hi : i.toNat = v.1.length := by simp at c; omega
    rw [hi] at h
    have h := h.take (I v.1.length)
    have h := h.eitherL D
    exact h.fin

theorem lost_triS (b : Nat) (s : Sl) (v : List Pc × Int) (hl : v.1.length ≤ 4294967296) : Tri Try.prog 63 [.lf (.ptr (some ⟨b, 0⟩))] [.lf (.int .i64)] (blk b [.sl s, .int .u64 v.2] ^ arr s K_u6b3 v.1) (fun r => pur (r = fI pLo v.1) (blk b [.sl s, .int .u64 v.2] ^ arr s K_u6b3 v.1)) :=
  tri_n (W := fun n R => W_board_Board_lost n (some ⟨b, 0⟩) R) (call_board_Board_lost _) fun w S R h => by
    unfold W_board_Board_lost
    refine w_new h fun n1 w h => ?_
    refine w_new h fun n2 w h => ?_
    refine w_set h rfl fun w h => ?_
    dsimp only [upd, over] at h
    refine w_call (all_tri b) (h.le (star_emp _)) fun f w h => ?_
    obtain ⟨n, h⟩ := h.exP
    obtain ⟨hf, h⟩ := h.purP
    rw [hf]
    have h := (h.take (blk n1 [.int .i64 0] ^ blk n2 [.int .i64 ((0 : Nat) : Int)])).toPur (p := ∀ j y, j < 0 → v.1[j]? = some y → pLo y = false) (fun j y hj => by omega)
    refine w_range (all_iterS n b s v hl) (fun i => pur (∀ j y, j < i → v.1[j]? = some y → pLo y = false) (blk n1 [.int .i64 0] ^ blk n2 [.int .i64 (i : Int)])) (fun j => pur (j = 1) (blk n1 [.int .i64 (fI pLo v.1)])) h ?_ ?_ ?_
    · intro i x hx w S R mid next jump rdy bsy hmid hnext hjump h
      have hi : i < v.1.length := (List.getElem?_eq_some_iff.1 hx).1
      refine w_new h fun n8 w h => ?_
      refine w_setAll h (by rfl) fun w h => ?_
      refine hmid h fun w h => ?_
      have h := h.take (pur (∀ j y, j < i → v.1[j]? = some y → pLo y = false) (blk n1 [.int .i64 0] ^ blk n2 [.int .i64 (i : Int)]))
      obtain ⟨hno, h⟩ := h.purP
      refine w_ld h rfl ?_
      refine w_ite (fun c => ?_) fun c => ?_
      · refine w_ld h rfl ?_
        refine w_set h rfl fun w h => ?_
        dsimp only [upd, over] at h
        have e : fI pLo v.1 = (i : Int) := fI_at hx c hno
        rw [← e] at h
        have h := (h.take (blk n1 [.int .i64 (fI pLo v.1)])).toPur (p := 1 = 1) rfl
        exact hjump 1 (by decide) h
      · refine w_ld h rfl ?_
        refine w_set h rfl fun w h => ?_
        dsimp only [upd, over] at h
        rw [wi (by omega) (by omega)] at h
        have h : Own _ _ _ _ (blk n2 [.int .i64 ((i + 1 : Nat) : Int)] ^ _) := h
        have h := (h.take (blk n1 [.int .i64 0] ^ blk n2 [.int .i64 ((i + 1 : Nat) : Int)])).toPur (p := ∀ j y, j < i + 1 → v.1[j]? = some y → pLo y = false) (fun j y hj hy => by
          by_cases hji : j = i
          · rw [hji, hx] at hy; cases hy; exact c
          · exact hno j y (by omega) hy)
        exact hnext h
    · intro w h
      have h := h.take (pur (∀ j y, j < v.1.length → v.1[j]? = some y → pLo y = false) (blk n1 [.int .i64 0] ^ blk n2 [.int .i64 (v.1.length : Int)]))
      obtain ⟨hno, h⟩ := h.purP
      refine w_set h rfl fun w h => ?_
      dsimp only [upd, over] at h
      refine w_ld h rfl ?_
      refine w_leave h fun w h => ?_
      refine Own.retP ?_ h.fin
      rw [fI_none]
      intro y hy
      obtain ⟨j, hj, rfl⟩ := List.mem_iff_getElem.1 hy
      exact hno j _ hj (at_some hj)
    · intro j w hj h
      have h := h.take (pur (j = 1) (blk n1 [.int .i64 (fI pLo v.1)]))
      obtain ⟨hj1, h⟩ := h.purP
      rw [hj1]
      refine w_ld h rfl ?_
      refine w_leave h fun w h => ?_
      exact Own.retP rfl h.fin
def againP (p : Pc) (s : Snt) : Pc := (p.1, p.2.1, s.1, s.2.1, s.2.2.1, s.2.2.2.1, s.2.2.2.2, p.2.2.2.2.2.2.2.1, false)
def againF (l : List Pc) (s : Snt) : List Pc := match l[(fI pLo l).toNat]? with
  | some p => if fI pLo l < 0 then l else l.set (fI pLo l).toNat (againP p s)
  | none => l
theorem Again_tri (b : Nat) (s : Snt) (v : List Pc × Int) (hl : v.1.length ≤ 4294967296) : Tri Try.prog 45 [.lf (.ptr (some ⟨b, 0⟩)), .agg (Ks.mk K_u4b s)] [.agg KR, .lf .bool] (brd b v) (fun r => pur (r = lostF v.1) (brd b (againF v.1 s, v.2))) :=
  tri_0 (call_board_Board_Again _ s) fun w S R h => by
    unfold W_board_Board_Again
    refine w_new h fun n1 w h => ?_
    refine w_new h fun n2 w h => ?_
    refine w_call (Lost_tri b v hl) h fun r w h => ?_
    obtain ⟨hr, h⟩ := h.purP
    rw [hr]
    refine w_new h fun n4 w h => ?_
    refine w_setAll h (by rfl) fun w h => ?_
    refine w_join h (fun _ => blk n4 (Ks.mk KR (lostF v.1).1) ^ blk n2 [.int .u64 0, .int .u64 0] ^ brd b (againF v.1 s, v.2)) (fun _ => True) (fun x w _ h => ?_) ?_
    · refine w_ldAll h rfl ?_
      refine w_setAll h (by rfl) fun w h => ?_
      refine w_ldAll h rfl ?_
      exact Own.retP rfl h.fin
    · by_cases c : 0 ≤ fI pLo v.1
      · obtain ⟨p, hp, hpl, hlt, _⟩ := fI_some c
        have he := lostF_yes c hp
        have ha : againF v.1 s = v.1.set (fI pLo v.1).toNat (againP p s) := by
          unfold againF
          rw [hp]
          simp only
          rw [if_neg (by omega)]
        refine w_ite (fun c2 => ?_) fun c2 => by rw [he] at c2; cases c2
        refine w_drw h fun w h => ?_
        obtain ⟨sl, h⟩ := h.brd b
        refine w_deref (w_ld h rfl ?_)
        refine w_call (lost_triS b sl v hl) h fun r9 w h => ?_
        obtain ⟨hr9, h⟩ := h.purP
        rw [hr9]
        refine w_chk h rfl ?_
        refine w_idx h c hlt ?_
        refine w_drw h fun w h => ?_
        refine w_ldAll (x := s) h rfl ?_
        refine w_deref ?_
        refine w_stA h sl (fI pLo v.1).toNat 8 p (setLo p false) hp rfl (by decide) (by simp) rfl fun w h => ?_
        refine w_chkAll h ?_
        refine w_deref ?_
        have hp2 : (v.1.set (fI pLo v.1).toNat (setLo p false))[(fI pLo v.1).toNat]? = some (setLo p false) := by rw [List.getElem?_set_self hlt]
        refine w_stA h sl (fI pLo v.1).toNat 2 (setLo p false) (againP p s) hp2 rfl (by rw [Ks.len]; decide) (by simp [Ks.mk]) rfl fun w h => ?_
        rw [List.set_set] at h
        rw [ha]
        exact ⟨trivial, (h.mkBrd b sl (v.1.set (fI pLo v.1).toNat (againP p s)) v.2).fin⟩
      · have c : fI pLo v.1 < 0 := by omega
        have he := lostF_no c
        have ha : againF v.1 s = v.1 := by
          unfold againF
          split
          · rw [if_pos c]
          · rfl
        refine w_ite (fun c2 => by rw [he] at c2; cases c2) fun c2 => ?_
        rw [ha]
        exact ⟨trivial, h.fin⟩
/-! ### No board -/
theorem nil_end_tri : Tri Try.prog 16 [.lf (.ptr none)] [.lf (.int .u64)] emp (fun r => pur (r = 0) emp) :=
  tri_0 (call_board_Board_End _) fun w S R h => by
    unfold W_board_Board_End
    exact w_ite (fun c => Own.retP rfl h) fun c => by cases c
theorem nil_sent_tri (f t : Int) (s : Snt) : Tri Try.prog 15 [.lf (.ptr none), .lf (.int .u64 f), .lf (.int .u64 t), .agg (Ks.mk K_u4b s)] [.lf (.int .i64)] emp (fun r => pur (r = 2) emp) :=
  tri_0 (call_board_Board_Sent _ _ _ _) fun w S R h => by
    unfold W_board_Board_Sent
    refine w_new h fun n1 w h => ?_
    exact w_ite (fun c => Own.retP rfl h.emp') fun c => by cases c
theorem nil_ack_tri (u : Int) (s : Sl) : Tri Try.prog 20 [.lf (.ptr none), .lf (.int .u64 u), .lf (.sl s)] [.lf .sl, .lf (.int .u64), .lf (.int .i64)] emp (fun r => pur (r.2.2 = 2) emp) :=
  tri_0 (call_board_Board_Ack _ _ _) fun w S R h => by
    unfold W_board_Board_Ack
    exact w_ite (fun c => Own.retP rfl h.emp') fun c => by cases c
theorem nil_lose_tri : Tri Try.prog 44 [.lf (.ptr none)] [.lf (.int .u64)] emp (fun r => pur (r = 0) emp) :=
  tri_0 (call_board_Board_Lose _) fun w S R h => by
    unfold W_board_Board_Lose
    exact w_ite (fun c => Own.retP rfl h) fun c => by cases c
theorem nil_all_tri : Tri Try.prog 19 [.lf (.ptr none)] [.lf .fn] emp (fun f => ex fun n => pur (f = mkAll n) (blk n [.ptr none])) :=
  tri_0 (call_board_Board_All _) fun w S R h => by
    unfold W_board_Board_All
    refine w_new h fun n1 w h => ?_
    exact Own.retE n1 (Own.retP rfl h.keep)
theorem nil_iter (n : Nat) : Iter Try.prog (mkAll n) (blk n [.ptr none]) [.agg K_u6b3] [] := by
  intro y I D hy
  refine Tri.g (f := 49) (args := [.lf (.fn y)]) (caps := [.lf (.ptr (some ⟨n, 0⟩))]) (tri_0 (call_board_Board_All_c1 y ⟨n, 0⟩) fun w S R h => ?_)
  unfold W_board_Board_All_c1
  refine w_ld h rfl ?_
  refine w_ite (fun c => ?_) fun c => by cases c
  have h := (h.take (I 0)).eitherL D
  exact h.fin
theorem nil_flight_tri : Tri Try.prog 17 [.lf (.ptr none)] [.lf (.int .u64)] emp (fun r => pur (r = 0) emp) :=
  tri_n (W := fun n R => W_board_Board_Flight n none R) (call_board_Board_Flight _) fun w S R h => by
    unfold W_board_Board_Flight
    refine w_new h fun n1 w h => ?_
    refine w_set h rfl fun w h => ?_
    dsimp only [upd, over] at h
    refine w_call nil_all_tri h fun f w h => ?_
    obtain ⟨n, h⟩ := h.exP
    obtain ⟨hf, h⟩ := h.purP
    rw [hf]
    refine w_range (nil_iter n) (fun _ => blk n1 [.int .u64 0]) (fun _ => pur False emp) h ?_ ?_ ?_
    · intro i x hx; simp at hx
    · intro w h
      refine w_ld h rfl ?_
      refine w_leave h fun w h => ?_
      exact Own.retP rfl h.emp'
    · intro j w hj h
      exact (h.take (pur False emp)).purP.1.elim
theorem nil_lost_tri : Tri Try.prog 63 [.lf (.ptr none)] [.lf (.int .i64)] emp (fun r => pur (r = -1) emp) :=
  tri_n (W := fun n R => W_board_Board_lost n none R) (call_board_Board_lost _) fun w S R h => by
    unfold W_board_Board_lost
    refine w_new h fun n1 w h => ?_
    refine w_new h fun n2 w h => ?_
    refine w_set h rfl fun w h => ?_
    dsimp only [upd, over] at h
    refine w_call nil_all_tri h fun f w h => ?_
    obtain ⟨n, h⟩ := h.exP
    obtain ⟨hf, h⟩ := h.purP
    rw [hf]
    have h := h.take (blk n1 [.int .i64 0])
    refine w_range (nil_iter n) (fun _ => blk n1 [.int .i64 0]) (fun _ => pur False emp) h ?_ ?_ ?_
    · intro i x hx; simp at hx
    · intro w h
      refine w_set h rfl fun w h => ?_
      dsimp only [upd, over] at h
      refine w_ld h rfl ?_
      refine w_leave h fun w h => ?_
      exact Own.retP rfl h.emp'
    · intro j w hj h
      exact (h.take (pur False emp)).purP.1.elim
theorem nil_Lost_tri : Tri Try.prog 39 [.lf (.ptr none)] [.agg KR, .lf .bool] emp (fun r => pur (r = ((0, 0), false)) emp) :=
  tri_0 (call_board_Board_Lost _) fun w S R h => by
    unfold W_board_Board_Lost
    refine w_new h fun n1 w h => ?_
    refine w_call nil_lost_tri h fun r w h => ?_
    obtain ⟨hr, h⟩ := h.purP
    rw [hr]
    refine w_ite (fun c => ?_) fun c => by cases c
    refine w_set h rfl fun w h => ?_
    dsimp only [upd, over] at h
    refine w_ldAll (x := (0, 0)) h rfl ?_
    exact Own.retP rfl h.emp'
theorem nil_Again_tri (s : Snt) : Tri Try.prog 45 [.lf (.ptr none), .agg (Ks.mk K_u4b s)] [.agg KR, .lf .bool] emp (fun r => pur (r = ((0, 0), false)) emp) :=
  tri_0 (call_board_Board_Again _ s) fun w S R h => by
    unfold W_board_Board_Again
    refine w_new h fun n1 w h => ?_
    refine w_new h fun n2 w h => ?_
    refine w_call nil_Lost_tri h fun r w h => ?_
    obtain ⟨hr, h⟩ := h.purP
    rw [hr]
    refine w_new h fun n4 w h => ?_
    refine w_setAll h (by rfl) fun w h => ?_
    refine w_join h (fun _ => blk n4 (Ks.mk KR ((0, 0) : Int × Int)) ^ blk n2 [.int .u64 0, .int .u64 0]) (fun _ => True) (fun x w _ h => ?_) ?_
    · refine w_ldAll h rfl ?_
      refine w_setAll h (by rfl) fun w h => ?_
      refine w_ldAll h rfl ?_
      exact Own.retP rfl h.emp'
    · refine w_ite (fun c => by cases c) fun c => ?_
      exact ⟨trivial, h.fin⟩
/-! ### Plain law: losses -/
theorem pass_few : ∀ l : List Pc, l.countP pSk ≤ 2 → passF l = (l, 0, (l.countP pSk : Int))
  | [], _ => rfl
  | p :: l, h => by
    have hc : (p :: l).countP pSk = l.countP pSk + (if pSk p then 1 else 0) := List.countP_cons ..
    rw [hc] at h
    have ih := pass_few l (by split at h <;> omega)
    have ha : abvF p (l.countP pSk : Int) = ((p :: l).countP pSk : Int) := by
      rw [hc, abvF]
      by_cases hp : pSk p = true
      · rw [if_pos hp, if_pos hp, wi (by omega) (by omega)]; simp
      · rw [if_neg hp, if_neg hp]; simp
    have hh : hitF p (l.countP pSk : Int) = false := by
      rw [hitF, ha, hc]
      have : decide (((l.countP pSk + if pSk p = true then 1 else 0 : Nat) : Int) ≥ 3) = false := decide_eq_false (by omega)
      rw [this, Bool.and_false]
    rw [passF, ih]
    dsimp only
    rw [hh, ha]
    rfl
def amt (p : Pc) : Int := IntKind.u64.wrap (p.2.1 - p.1)
def sumR : List Pc → Int
  | [] => 0
  | p :: l => IntKind.u64.wrap (sumR l + amt p)
theorem pass_hit {B : List Pc} (hB : passF B = (B, 0, 3)) : ∀ A : List Pc, (∀ p ∈ A, flyP p = true) → passF (A ++ B) = (A.map (fun p => setLo p true) ++ B, sumR A, 3)
  | [], _ => hB
  | p :: A, h => by
    have ih := pass_hit hB A (fun q hq => h q (List.mem_cons_of_mem _ hq))
    have hp := h p List.mem_cons_self
    have hs : pSk p = false := by
      unfold flyP at hp
      cases hx : pSk p with
      | false => rfl
      | true => rw [hx] at hp; cases hp
    have ha : abvF p 3 = 3 := by rw [abvF, hs]; rfl
    have hh : hitF p 3 = true := by rw [hitF, hp, ha]; rfl
    rw [List.cons_append, passF, ih]
    dsimp only
    rw [hh, ha]
    rfl
theorem flight_append (A B : List Pc) : flightF (A ++ B) = B.foldl addF (flightF A) := by rw [flightF, List.foldl_append]; rfl
theorem flight_still : ∀ (B : List Pc) (n : Int), (∀ p ∈ B, flyP p = false) → B.foldl addF n = n
  | [], _, _ => rfl
  | p :: B, n, h => by
    have hp := h p List.mem_cons_self
    rw [List.foldl_cons, addF, if_neg (by rw [hp]; simp)]
    exact flight_still B n (fun q hq => h q (List.mem_cons_of_mem _ hq))
/-- So many pieces of one size that are under way. -/
theorem flight_all {z : Int} (hz0 : 0 ≤ z) (hz : z ≤ 5000) : ∀ (B : List Pc) (n : Int), 0 ≤ n → n ≤ 1000000 → B.length ≤ 100 → (∀ p ∈ B, flyP p = true ∧ p.2.1 - p.1 = z) → B.foldl addF n = n + (B.length : Int) * z
  | [], n, _, _, _, _ => by simp
  | p :: B, n, h0, h1, hl, h => by
    have hp := h p List.mem_cons_self
    have hs : addF n p = n + z := by
      rw [addF, if_pos hp.1]
      have : pTo p - pFrom p = z := hp.2
      rw [this, wu hz0 (by omega), wu (by omega) (by omega)]
    rw [List.foldl_cons, hs]
    simp only [List.length_cons] at hl ⊢
    have gen : ∀ (B : List Pc) (n : Int), 0 ≤ n → n ≤ 1000000 + 5000 * (100 - B.length : Nat) → B.length ≤ 100 → (∀ p ∈ B, flyP p = true ∧ p.2.1 - p.1 = z) → B.foldl addF n = n + (B.length : Int) * z := by
      intro B
      induction B with
      | nil => intro n _ _ _ _; simp
      | cons q B ih =>
        intro n h0 h1 hl h
        have hq := h q List.mem_cons_self
        have hs : addF n q = n + z := by
          rw [addF, if_pos hq.1]
          have : pTo q - pFrom q = z := hq.2
          rw [this, wu hz0 (by omega), wu (by omega) (by omega)]
        simp only [List.length_cons] at hl h1
        rw [List.foldl_cons, hs, ih (n + z) (by omega) (by omega) (by omega) (fun x hx => h x (List.mem_cons_of_mem _ hx)), List.length_cons]
        have : ((B.length + 1 : Nat) : Int) * z = (B.length : Int) * z + z := by rw [Int.natCast_add, Int.add_mul]; simp
        rw [this]; omega
    rw [gen B (n + z) (by omega) (by omega) (by omega) (fun x hx => h x (List.mem_cons_of_mem _ hx))]
    have : ((B.length + 1 : Nat) : Int) * z = (B.length : Int) * z + z := by rw [Int.natCast_add, Int.add_mul]; simp
    rw [this]; omega
theorem mulle {a b z : Int} (hz : 0 < z) : a * z ≤ b * z ↔ a ≤ b := ⟨fun h => Int.le_of_mul_le_mul_right h hz, fun h => Int.mul_le_mul_of_nonneg_right h (Int.le_of_lt hz)⟩
theorem LF_step' {z i : Int} (hz : 0 < z) (h0 : 0 ≤ i) (h1 : i < 100) : sentF (LF z i) (i * z) ((i + 1) * z) (i, 0, 0, 0, false) = (0, LF z (i + 1)) := by
  have hi : ((i.toNat : Nat) : Int) = i := Int.toNat_of_nonneg h0
  have ht : (i + 1) * z = i * z + z := by rw [Int.add_mul, Int.one_mul]
  have hn : (i + 1).toNat = i.toNat + 1 := by omega
  rw [sentF, if_neg (by show ¬ (i * z ≠ i * z ∨ (i + 1) * z ≤ i * z); omega), if_neg (by simp [LF]; omega)]
  simp only [LF, hn, List.range_succ, List.map_append, List.map_cons, List.map_nil, pK, hi]
/-- The first m; the last three. -/
def AL (z : Int) (m : Nat) : List Pc := (List.range m).map (pK z)
def BL (z : Int) (m : Nat) (f : Nat → Pc → Pc) : List Pc := [f 0 (pK z m), f 1 (pK z (m + 1)), f 2 (pK z (m + 2))]
theorem LF_split (z : Int) (m : Nat) : LF z ((m : Int) + 3) = (AL z m ++ BL z m (fun _ p => p), ((m : Int) + 3) * z) := by
  have hn : ((m : Int) + 3).toNat = m + 3 := by omega
  simp [LF, hn, AL, BL, List.range_succ]
theorem pK_sk (z : Int) (j : Nat) : pSk (pK z j) = false := rfl
theorem told_pK {z : Int} (hz : 0 < z) (a b : Int) (j : Nat) : toldP 0 [(a * z, b * z)] (pK z j) = (decide (a ≤ (j : Int)) && decide ((j : Int) + 1 ≤ b)) := by
  have e1 : decide (((j : Int) + 1) * z ≤ 0) = false := decide_eq_false (by
    have : (0 : Int) * z < ((j : Int) + 1) * z := Int.mul_lt_mul_of_pos_right (by omega) hz
    omega)
  show (!false && (decide (((j : Int) + 1) * z ≤ 0) || ([(a * z, b * z)] : List (Int × Int)).any (inF (pK z j)))) = _
  rw [e1]
  simp only [Bool.not_false, Bool.true_and, Bool.false_or, List.any_cons, List.any_nil, Bool.or_false]
  show (decide (a * z ≤ (j : Int) * z) && decide (b * z ≥ ((j : Int) + 1) * z)) = _
  rw [decide_eq_decide.2 (mulle hz), decide_eq_decide.2 (show b * z ≥ ((j : Int) + 1) * z ↔ (j : Int) + 1 ≤ b from mulle hz)]
theorem flight_cnt {z : Int} (hz0 : 0 ≤ z) (hz : z ≤ 5000) : ∀ (B : List Pc) (n : Int), 0 ≤ n → n ≤ 1000000 + 5000 * (100 - B.length : Nat) → B.length ≤ 100 → (∀ p ∈ B, flyP p = true → p.2.1 - p.1 = z) → B.foldl addF n = n + (B.countP flyP : Int) * z
  | [], n, _, _, _, _ => by simp
  | p :: B, n, h0, h1, hl, h => by
    simp only [List.length_cons] at hl h1
    have hc : (p :: B).countP flyP = B.countP flyP + (if flyP p then 1 else 0) := List.countP_cons ..
    rw [List.foldl_cons, hc]
    by_cases hf : flyP p = true
    · have hs : addF n p = n + z := by
        rw [addF, if_pos hf]
        have : pTo p - pFrom p = z := h p List.mem_cons_self hf
        rw [this, wu hz0 (by omega), wu (by omega) (by omega)]
      rw [hs, flight_cnt hz0 hz B (n + z) (by omega) (by omega) (by omega) (fun q hq => h q (List.mem_cons_of_mem _ hq)), if_pos hf]
      have : ((B.countP flyP + 1 : Nat) : Int) * z = (B.countP flyP : Int) * z + z := by rw [Int.natCast_add, Int.add_mul]; simp
      rw [this]; omega
    · have hs : addF n p = n := by rw [addF, if_neg hf]
      rw [hs, flight_cnt hz0 hz B n h0 (by omega) (by omega) (fun q hq => h q (List.mem_cons_of_mem _ hq)), if_neg hf]
      simp
theorem sumR_all {z : Int} (hz0 : 0 ≤ z) (hz : z ≤ 5000) : ∀ B : List Pc, B.length ≤ 100 → (∀ p ∈ B, p.2.1 - p.1 = z) → sumR B = (B.length : Int) * z ∧ 0 ≤ sumR B ∧ sumR B ≤ 5000 * B.length
  | [], _, _ => by simp [sumR]
  | p :: B, hl, h => by
    simp only [List.length_cons] at hl ⊢
    obtain ⟨e, e0, e1⟩ := sumR_all hz0 hz B (by omega) (fun q hq => h q (List.mem_cons_of_mem _ hq))
    have ha : amt p = z := by rw [amt, h p List.mem_cons_self, wu hz0 (by omega)]
    have hs : sumR (p :: B) = sumR B + z := by rw [sumR, ha, wu (by omega) (by omega)]
    have : ((B.length + 1 : Nat) : Int) * z = (B.length : Int) * z + z := by rw [Int.natCast_add, Int.add_mul]; simp
    exact ⟨by rw [hs, this, e], by omega, by omega⟩
theorem rest_all {xs : List (Int × Int)} {l : List Pc} (h : ∀ p ∈ l, ¬ p.2.1 ≤ 0) : restL 0 xs l = l.map (markP 0 xs) := by
  rw [restL, List.filter_eq_self.2]
  intro p hp
  have := h p hp
  simp only [Bool.not_eq_true', decide_eq_false_iff_not]; exact this
theorem pK_to {z : Int} (hz : 0 < z) (j : Nat) : ¬ (pK z j).2.1 ≤ 0 := by
  show ¬ ((j : Int) + 1) * z ≤ 0
  have : (0 : Int) * z < ((j : Int) + 1) * z := Int.mul_lt_mul_of_pos_right (by omega) hz
  omega
theorem pK_amt (z : Int) (j : Nat) : (pK z j).2.1 - (pK z j).1 = z := by
  show ((j : Int) + 1) * z - (j : Int) * z = z
  rw [Int.add_mul, Int.one_mul]; omega
def f1 (i : Nat) (p : Pc) : Pc := match i with | 0 => p | _ => setSk p
def f2 (_ : Nat) (p : Pc) : Pc := setSk p
theorem loss1 {z : Int} (hz : 0 < z) (m : Nat) : restL 0 [(((m : Int) + 1) * z, ((m : Int) + 3) * z)] (LF z ((m : Int) + 3)).1 = AL z m ++ BL z m f1 := by
  rw [rest_all (by
    intro p hp
    simp only [LF, List.mem_map] at hp
    obtain ⟨j, _, rfl⟩ := hp
    exact pK_to hz j), LF_split]
  dsimp only
  rw [List.map_append]
  congr 1
  · simp only [AL, List.map_map]
    apply List.map_congr_left
    intro j hj
    have hj := List.mem_range.1 hj
    show markP 0 _ (pK z j) = pK z j
    rw [markP, told_pK hz, decide_eq_false (show ¬ (m : Int) + 1 ≤ (j : Int) by omega)]
    rfl
  · simp only [BL, List.map_cons, List.map_nil, f1]
    congr 1
    · rw [markP, told_pK hz, decide_eq_false (show ¬ (m : Int) + 1 ≤ (m : Int) by omega)]; rfl
    · congr 1
      · rw [markP, told_pK hz, decide_eq_true (show (m : Int) + 1 ≤ ((m + 1 : Nat) : Int) by omega), decide_eq_true (show ((m + 1 : Nat) : Int) + 1 ≤ (m : Int) + 3 by omega)]; rfl
      · rw [markP, told_pK hz, decide_eq_true (show (m : Int) + 1 ≤ ((m + 2 : Nat) : Int) by omega), decide_eq_true (show ((m + 2 : Nat) : Int) + 1 ≤ (m : Int) + 3 by omega)]; rfl
theorem sk_told (u : Int) (xs : List (Int × Int)) (p : Pc) : toldP u xs (setSk p) = false := rfl
theorem loss2 {z : Int} (hz : 0 < z) (m : Nat) : restL 0 [((m : Int) * z, ((m : Int) + 3) * z)] (AL z m ++ BL z m f1) = AL z m ++ BL z m f2 := by
  rw [rest_all (by
    intro p hp
    rcases List.mem_append.1 hp with hp | hp
    · simp only [AL, List.mem_map] at hp
      obtain ⟨j, _, rfl⟩ := hp
      exact pK_to hz j
    · simp only [BL, f1, List.mem_cons, List.not_mem_nil, or_false] at hp
      rcases hp with rfl | rfl | rfl
      · exact pK_to hz m
      · exact pK_to hz (m + 1)
      · exact pK_to hz (m + 2)), List.map_append]
  congr 1
  · simp only [AL, List.map_map]
    apply List.map_congr_left
    intro j hj
    have hj := List.mem_range.1 hj
    show markP 0 _ (pK z j) = pK z j
    rw [markP, told_pK hz, decide_eq_false (show ¬ (m : Int) ≤ (j : Int) by omega)]
    rfl
  · simp only [BL, List.map_cons, List.map_nil, f1, f2]
    congr 1
    rw [markP, told_pK hz, decide_eq_true (show (m : Int) ≤ (m : Int) by omega), decide_eq_true (show (m : Int) + 1 ≤ (m : Int) + 3 by omega)]; rfl
theorem AL_few (z : Int) (m : Nat) : (AL z m).countP pSk = 0 := by
  rw [List.countP_eq_zero]
  intro p hp
  simp only [AL, List.mem_map] at hp
  obtain ⟨j, _, rfl⟩ := hp
  rw [pK_sk]; simp
theorem loss1_pass (z : Int) (m : Nat) : (passF (AL z m ++ BL z m f1)).1 = AL z m ++ BL z m f1 ∧ (passF (AL z m ++ BL z m f1)).2.1 = 0 := by
  have hc : (AL z m ++ BL z m f1).countP pSk ≤ 2 := by
    rw [List.countP_append, AL_few]
    show 0 + ([pK z m, setSk (pK z (m + 1)), setSk (pK z (m + 2))].countP pSk) ≤ 2
    exact Nat.le_refl 2
  rw [pass_few _ hc]
  exact ⟨rfl, rfl⟩
theorem BL_pass (z : Int) (m : Nat) : passF (BL z m f2) = (BL z m f2, 0, 3) := rfl
/-- Behind the losses: the first k are sent again. -/
def agP (z : Int) (j : Nat) : Pc := againP (setLo (pK z j) true) (99, 0, 0, 0, false)
def cellK (z : Int) (k j : Nat) : Pc := if j < k then agP z j else setLo (pK z j) true
def CL (z : Int) (m k : Nat) : List Pc := (List.range m).map (cellK z k) ++ BL z m f2
theorem loss2_pass {z : Int} (hz0 : 0 ≤ z) (hz : z ≤ 5000) (m : Nat) (hm : m ≤ 100) : (passF (AL z m ++ BL z m f2)).1 = CL z m 0 ∧ (passF (AL z m ++ BL z m f2)).2.1 = (m : Int) * z := by
  rw [pass_hit (BL_pass z m) (AL z m) (by
    intro p hp
    simp only [AL, List.mem_map] at hp
    obtain ⟨j, _, rfl⟩ := hp
    rfl)]
  refine ⟨?_, ?_⟩
  · simp only [CL]
    congr 1
    simp only [AL, List.map_map]
    apply List.map_congr_left
    intro j _
    rfl
  · have := (sumR_all hz0 hz (AL z m) (by simp [AL]; exact hm) (by
      intro p hp
      simp only [AL, List.mem_map] at hp
      obtain ⟨j, _, rfl⟩ := hp
      exact pK_amt z j)).1
    rw [show (AL z m).length = m by simp [AL]] at this
    exact this
theorem CL_at {z : Int} {m k j : Nat} (h : j < m) : (CL z m k)[j]? = some (cellK z k j) := by
  rw [CL, List.getElem?_append_left (by simpa using h)]
  simp [h]
theorem CL_lost {z : Int} {m k : Nat} (h : k < m) : fI pLo (CL z m k) = (k : Int) := by
  refine fI_at (CL_at h) ?_ fun j y hj hy => ?_
  · rw [cellK, if_neg (by omega)]; rfl
  · rw [CL_at (by omega)] at hy
    cases hy
    rw [cellK, if_pos hj]; rfl
theorem CL_none (z : Int) (m : Nat) : fI pLo (CL z m m) = -1 := by
  refine fI_none fun y hy => ?_
  rcases List.mem_append.1 hy with hy | hy
  · simp only [List.mem_map, List.mem_range] at hy
    obtain ⟨j, hj, rfl⟩ := hy
    rw [cellK, if_pos hj]; rfl
  · simp only [BL, f2, List.mem_cons, List.not_mem_nil, or_false] at hy
    rcases hy with rfl | rfl | rfl <;> rfl
theorem CL_again {z : Int} {m k : Nat} (h : k < m) : againF (CL z m k) (99, 0, 0, 0, false) = CL z m (k + 1) := by
  have hf := CL_lost (z := z) h
  have hk : (fI pLo (CL z m k)).toNat = k := by rw [hf]; simp
  unfold againF
  rw [hk, CL_at h]
  simp only
  rw [if_neg (by rw [hf]; omega), CL, List.set_append_left _ _ (by simpa using h)]
  simp only [CL]
  congr 1
  apply List.ext_getElem (by simp)
  intro j h1 h2
  simp only [List.length_set, List.length_map, List.length_range] at h1
  rw [List.getElem_set]
  simp only [List.getElem_map, List.getElem_range]
  by_cases hj : k = j
  · subst hj
    rw [if_pos rfl, cellK, if_neg (by omega), cellK, if_pos (by omega)]; rfl
  · rw [if_neg hj, cellK, cellK]
    by_cases h3 : j < k
    · rw [if_pos h3, if_pos (by omega)]
    · rw [if_neg h3, if_neg (by omega)]

theorem CL_fly {z : Int} (hz0 : 0 ≤ z) (hz : z ≤ 5000) {m k : Nat} (hm : m ≤ 90) (hk : k ≤ m) : flightF (CL z m k) = (k : Int) * z := by
  have hc : (CL z m k).countP flyP = k := by
    have h1 : ∀ n, n ≤ m → ((List.range n).map (cellK z k)).countP flyP = min k n := by
      intro n
      induction n with
      | zero => intro _; simp
      | succ n ih =>
        intro hn
        rw [List.range_succ, List.map_append, List.countP_append, ih (by omega)]
        simp only [List.map_cons, List.map_nil, List.countP_cons, List.countP_nil, cellK]
        by_cases hj : n < k
        · rw [if_pos hj, if_pos (show flyP (agP z n) = true from rfl)]; omega
        · rw [if_neg hj, if_neg (show ¬ flyP (setLo (pK z n) true) = true from fun hh => by cases hh)]; omega
    have h2 : (BL z m f2).countP flyP = 0 := rfl
    rw [CL, List.countP_append, h1 m (Nat.le_refl _), h2]; omega
  have := flight_cnt hz0 hz (CL z m k) 0 (Int.le_refl 0) (by omega) (by simp [CL, BL]; omega) (by
    intro p hp hf
    rcases List.mem_append.1 hp with hp | hp
    · simp only [List.mem_map, List.mem_range] at hp
      obtain ⟨j, hj, rfl⟩ := hp
      rw [cellK]
      split
      · exact pK_amt z j
      · exact pK_amt z j
    · simp only [BL, f2, List.mem_cons, List.not_mem_nil, or_false] at hp
      rcases hp with rfl | rfl | rfl <;> cases hf)
  rw [flightF, this, hc]; simp
theorem lose_none (l : List Pc) : flightF (l.map loseP) = 0 := by
  rw [flightF]
  refine flight_still _ 0 fun p hp => ?_
  obtain ⟨q, _, rfl⟩ := List.mem_map.1 hp
  rw [loseP]
  split
  · simp [flyP, pLo, setLo]
  · rename_i h; simpa using h
theorem losses_tri (d o : Int) (ho : 0 ≤ o) : Tri Try.prog 11 [.lf (.int .i64 d), .lf (.int .u64 o)] [.lf .bool] emp (fun r => pur (r = true) emp) :=
  tri_0 (call_canterlaw24_BoardLosses _ _) fun w S R h => by
    unfold W_canterlaw24_BoardLosses
    have hq := wu_range d
    have hq1 := Int.tmod_nonneg 20 hq.1
    have hq2 := Int.tmod_lt_of_pos (IntKind.u64.wrap d) (show (0 : Int) < 20 by decide)
    obtain ⟨n, hn⟩ : ∃ n, n = IntKind.i64.wrap (4 + IntKind.i64.wrap ((IntKind.u64.wrap d).tmod 20)) := ⟨_, rfl⟩
    have hn1 : 4 ≤ n ∧ n ≤ 23 := by rw [wi (n := (IntKind.u64.wrap d).tmod 20) (by omega) (by omega), wi (by omega) (by omega)] at hn; omega
    have hk := Int.tmod_nonneg 5000 ho
    have hk2 := Int.tmod_lt_of_pos o (show (0 : Int) < 5000 by decide)
    obtain ⟨z, hz⟩ : ∃ z, z = IntKind.u64.wrap (1 + o.tmod 5000) := ⟨_, rfl⟩
    have hz1 : 1 ≤ z ∧ z ≤ 5000 := by rw [wu (by omega) (by omega)] at hz; omega
    obtain ⟨m, hm⟩ : ∃ m : Nat, n = (m : Int) + 3 := ⟨(n - 3).toNat, by omega⟩
    have hm1 : 1 ≤ m ∧ m ≤ 20 := by omega
    have mz : ∀ i : Int, 0 ≤ i → i ≤ 24 → 0 ≤ i * z ∧ i * z ≤ 120000 := fun i h0 h1 => by
      have a1 : 0 * z ≤ i * z := Int.mul_le_mul_of_nonneg_right h0 (by omega)
      have a2 : i * z ≤ 24 * z := Int.mul_le_mul_of_nonneg_right h1 (by omega)
      omega
    have mw : ∀ i : Int, 0 ≤ i → i ≤ 24 → IntKind.u64.wrap (i * z) = i * z := fun i h0 h1 => by
      have := mz i h0 h1
      exact wu (by omega) (by omega)
    rw [← hn, ← hz]
    have n3 : IntKind.i64.wrap (n - 3) = (m : Int) := by rw [hm, wi (by omega) (by omega)]; omega
    have nu : IntKind.u64.wrap n = (m : Int) + 3 := by rw [hm, wu (by omega) (by omega)]
    have mu : IntKind.u64.wrap (m : Int) = (m : Int) := wu (by omega) (by omega)
    rw [n3, nu, mu, mw ((m : Int) + 3) (by omega) (by omega), mw 2 (by omega) (by omega), mw 3 (by omega) (by omega), mw (m : Int) (by omega) (by omega)]
    have x1 : IntKind.u64.wrap (((m : Int) + 3) * z - 2 * z) = ((m : Int) + 1) * z := by
      rw [← Int.sub_mul, show (m : Int) + 3 - 2 = (m : Int) + 1 by omega]; exact mw _ (by omega) (by omega)
    have x2 : IntKind.u64.wrap (((m : Int) + 3) * z - 3 * z) = (m : Int) * z := by
      rw [← Int.sub_mul, show (m : Int) + 3 - 3 = (m : Int) by omega]; exact mw _ (by omega) (by omega)
    rw [x1, x2]
    refine w_call new_tri h fun r1 w h => ?_
    obtain ⟨b, h⟩ := h.exP
    obtain ⟨hr1, h⟩ := h.purP
    rw [hr1]
    refine w_call awake_tri h fun r2 w h => ?_
    obtain ⟨hr2, h⟩ := h.purP
    rw [hr2]
    refine w_ite (fun c => (by cases c)) fun c => ?_
    have h := (h.take (brd b ([], 0))).keep
    have hL0 : LF z 0 = ([], 0) := by simp [LF]
    rw [← hL0] at h
    refine w_loop (fun (i : Int) => brd b (LF z i)) (fun (i : Int) => 0 ≤ i ∧ i ≤ n) (fun (i : Int) => (n - i).toNat) h ⟨by decide, by show (0 : Int) ≤ n; omega⟩ ?_
    rintro (i : Int) w ⟨h0, h1⟩ h
    refine w_ite (fun c => ?_) fun c => ?_
    · have hi : i < n := by simpa using c
      rw [wi (n := i + 1) (by omega) (by omega), wu (n := i) (by omega) (by omega), wu (n := i + 1) (by omega) (by omega), mw i (by omega) (by omega), mw (i + 1) (by omega) (by omega)]
      refine w_call (sent_tri b (i * z) ((i + 1) * z) (i, 0, 0, 0, false) (LF z i)) h fun r w h => ?_
      obtain ⟨hr, h⟩ := h.purP
      rw [LF_step' (by omega) h0 (by omega)] at h
      exact ⟨⟨⟨by show (0 : Int) ≤ i + 1; omega, by show i + 1 ≤ n; omega⟩, h.fin⟩, by show (n - (i + 1)).toNat < (n - i).toNat; omega⟩
    · have hi : i = (m : Int) + 3 := by simp at c; omega
      rw [hi] at h
      have hll : (LF z ((m : Int) + 3)).1.length = m + 3 := by simp [LF]; omega
      have he : (LF z ((m : Int) + 3)).2 = ((m : Int) + 3) * z := rfl
      refine w_new h fun n6 w h => ?_
      have h := h.blkArr n6 KR [(((m : Int) + 1) * z, ((m : Int) + 3) * z)] rfl (by simp)
      have bz := mz ((m : Int) + 3) (by omega) (by omega)
      have lt1 : ((m : Int) + 1) * z < ((m : Int) + 3) * z := Int.mul_lt_mul_of_pos_right (by omega) (by omega)
      have lt2 : (m : Int) * z < ((m : Int) + 3) * z := Int.mul_lt_mul_of_pos_right (by omega) (by omega)
      have may1 : mayF (LF z ((m : Int) + 3)) 0 [(((m : Int) + 1) * z, ((m : Int) + 3) * z)] = true := by
        simp [mayF, outF, he]; omega
      have tr1 := ack_tri b (LF z ((m : Int) + 3)) 0 ⟨some ⟨n6, 0⟩, 1, 1⟩ [(((m : Int) + 1) * z, ((m : Int) + 3) * z)] (by omega) (by simp) may1
      rw [loss1 (by omega), (loss1_pass z m).1, (loss1_pass z m).2, he] at tr1
      refine w_callL (A := brd b (LF z ((m : Int) + 3))) (Q := rarr ⟨some ⟨n6, 0⟩, 1, 1⟩ KR [(((m : Int) + 1) * z, ((m : Int) + 3) * z)]) tr1 h fun r7 w h => ?_
      obtain ⟨hr7, h⟩ := h.purP
      have h := (h.take (brd b (AL z m ++ BL z m f1, ((m : Int) + 3) * z))).keep
      refine w_new h fun n8 w h => ?_
      have h := h.blkArr n8 KR [((m : Int) * z, ((m : Int) + 3) * z)] rfl (by simp)
      have may2 : mayF (AL z m ++ BL z m f1, ((m : Int) + 3) * z) 0 [((m : Int) * z, ((m : Int) + 3) * z)] = true := by
        simp [mayF, outF]; omega
      have tr2 := ack_tri b (AL z m ++ BL z m f1, ((m : Int) + 3) * z) 0 ⟨some ⟨n8, 0⟩, 1, 1⟩ [((m : Int) * z, ((m : Int) + 3) * z)] (by simp [AL, BL]; omega) (by simp) may2
      dsimp only at tr2
      rw [loss2 (by omega), (loss2_pass (by omega) (by omega) m (by omega)).1, (loss2_pass (by omega) (by omega) m (by omega)).2] at tr2
      refine w_callL (A := brd b (AL z m ++ BL z m f1, ((m : Int) + 3) * z)) (Q := rarr ⟨some ⟨n8, 0⟩, 1, 1⟩ KR [((m : Int) * z, ((m : Int) + 3) * z)]) tr2 h fun r9 w h => ?_
      obtain ⟨hr9, h⟩ := h.purP
      have h := (h.take (brd b (CL z m 0, ((m : Int) + 3) * z))).keep
      have hcl : ∀ k, (CL z m k).length ≤ 4294967296 := fun k => by simp [CL, BL]; omega
      refine w_join h (fun _ => brd b (CL z m 0, ((m : Int) + 3) * z)) (fun _ => True) (fun _ w _ h => ?_) ?_
      · have hc0 : CL z m (0 : Int).toNat = CL z m 0 := rfl
        refine w_loop (fun (i : Int) => brd b (CL z m i.toNat, ((m : Int) + 3) * z)) (fun (i : Int) => 0 ≤ i ∧ i ≤ m) (fun (i : Int) => ((m : Int) - i).toNat) h ⟨by decide, by show (0 : Int) ≤ m; omega⟩ ?_
        rintro (i : Int) w ⟨h0, h1⟩ h
        refine w_ite (fun c => ?_) fun c => ?_
        · have hi : i < m := by simpa using c
          have hik : i.toNat < m := by omega
          have hit : ((i.toNat : Nat) : Int) = i := Int.toNat_of_nonneg h0
          have hi1 : (i + 1).toNat = i.toNat + 1 := by omega
          rw [wi (n := i + 1) (by omega) (by omega), wu (n := i) (by omega) (by omega), wu (n := i + 1) (by omega) (by omega), mw i (by omega) (by omega), mw (i + 1) (by omega) (by omega)]
          refine w_call (Again_tri b (99, 0, 0, 0, false) (CL z m i.toNat, ((m : Int) + 3) * z) (hcl _)) h fun r15 w h => ?_
          obtain ⟨hr15, h⟩ := h.purP
          dsimp only at hr15 h
          rw [CL_again hik] at h
          have hfl := CL_lost (z := z) hik
          have hlf : lostF (CL z m i.toNat) = ((i * z, (i + 1) * z), true) := by
            have e := lostF_yes (l := CL z m i.toNat) (p := cellK z i.toNat i.toNat) (by rw [hfl]; omega) (by rw [hfl, Int.toNat_natCast]; exact CL_at hik)
            rw [e, cellK, if_neg (by omega)]
            show ((((i.toNat : Nat) : Int) * z, (((i.toNat : Nat) : Int) + 1) * z), true) = _
            rw [hit]
          rw [hlf] at hr15
          rw [hr15]
          refine w_new h fun n16 w h => ?_
          refine w_setAll h (by rfl) fun w h => ?_
          refine w_join h (fun _ => brd b (CL z m (i.toNat + 1), ((m : Int) + 3) * z)) (fun (x : Bool) => x = false) (fun (x : Bool) w hx h => ?_) ?_
          · refine w_ite (fun c => by rw [hx] at c; cases c) fun c => ?_
            refine ⟨⟨⟨by show (0 : Int) ≤ i + 1; omega, by show i + 1 ≤ (m : Int); omega⟩, ?_⟩, by show ((m : Int) - (i + 1)).toNat < ((m : Int) - i).toNat; omega⟩
            show Own _ _ _ _ (brd b (CL z m (i + 1).toNat, ((m : Int) + 3) * z))
            rw [hi1]
            exact h.fin
          · refine w_ite (fun c => by cases c) fun c => ?_
            refine w_ldAll (x := (i * z, (i + 1) * z)) h rfl ?_
            refine w_ite (fun c => by simp at c) fun c => ?_
            refine w_call (flight_tri b (CL z m (i.toNat + 1), ((m : Int) + 3) * z) (hcl _)) h fun r20 w h => ?_
            obtain ⟨hr20, h⟩ := h.purP
            dsimp only at hr20
            rw [CL_fly (by omega) (by omega) (by omega) (by omega)] at hr20
            refine ⟨?_, h.fin⟩
            rw [hr20, show ((i.toNat + 1 : Nat) : Int) = i + 1 by omega]; simp
        · have hi : i.toNat = m := by simp at c; omega
          rw [hi] at h
          refine w_call (Lost_tri b (CL z m m, ((m : Int) + 3) * z) (hcl _)) h fun r21 w h => ?_
          obtain ⟨hr21, h⟩ := h.purP
          dsimp only at hr21
          rw [lostF_no (by rw [CL_none]; decide)] at hr21
          rw [hr21]
          refine w_new h fun n22 w h => ?_
          refine w_setAll h (by rfl) fun w h => ?_
          refine w_call (lose_tri b (CL z m m, ((m : Int) + 3) * z) (hcl _)) h fun r23 w h => ?_
          obtain ⟨hr23, h⟩ := h.purP
          dsimp only at hr23 h
          rw [CL_fly (by omega) (by omega) (by omega) (by omega)] at hr23
          refine w_call (nil_ack_tri 0 ⟨none, 0, 0⟩) h fun r24 w h => ?_
          obtain ⟨hr24, h⟩ := h.purP
          refine w_call (nil_Again_tri s0) h fun r25 w h => ?_
          obtain ⟨hr25, h⟩ := h.purP
          rw [hr25]
          refine w_new h fun n26 w h => ?_
          refine w_setAll h (by rfl) fun w h => ?_
          refine w_call nil_Lost_tri h fun r27 w h => ?_
          obtain ⟨hr27, h⟩ := h.purP
          rw [hr27]
          refine w_new h fun n28 w h => ?_
          refine w_setAll h (by rfl) fun w h => ?_
          refine w_ite (fun c => ?_) fun c => by rw [hr23] at c; simp at c
          refine w_call (lose_tri b ((CL z m m).map loseP, ((m : Int) + 3) * z) (by rw [List.length_map]; exact hcl _)) h fun r29 w h => ?_
          obtain ⟨hr29, h⟩ := h.purP
          dsimp only at hr29
          rw [lose_none] at hr29
          refine w_ite (fun c => ?_) fun c => by rw [hr29] at c; cases c
          refine w_call (nil_sent_tri 0 1 s0) h fun r30 w h => ?_
          obtain ⟨hr30, h⟩ := h.purP
          refine w_ite (fun c => ?_) fun c => by rw [hr30, hr24] at c; cases c
          refine w_call nil_lose_tri h fun r31 w h => ?_
          obtain ⟨hr31, h⟩ := h.purP
          refine w_ite (fun c => ?_) fun c => by rw [hr31] at c; cases c
          refine w_call nil_flight_tri h fun r32 w h => ?_
          obtain ⟨hr32, h⟩ := h.purP
          refine w_ite (fun c => ?_) fun c => by rw [hr32] at c; cases c
          refine w_call nil_end_tri h fun r33 w h => ?_
          obtain ⟨hr33, h⟩ := h.purP
          refine Own.retP ?_ h.emp'
          rw [hr33]; rfl
      · refine w_ite (fun c => ?_) fun c => ?_
        · rw [hr7.1, hr7.2, hr9.1, hr9.2] at c; simp at c
        · refine w_call (flight_tri b (CL z m 0, ((m : Int) + 3) * z) (hcl 0)) h fun r12 w h => ?_
          obtain ⟨hr12, h⟩ := h.purP
          dsimp only at hr12
          rw [CL_fly (by omega) (by omega) (by omega) (by omega)] at hr12
          refine w_ite (fun c => by rw [hr12] at c; simp at c) fun c => ?_
          exact ⟨trivial, h.fin⟩
end Go.X
