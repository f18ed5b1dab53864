/- Contracts and plain facts: RefBoard. -/
import Derived.Test.YtgdhpkfielibbaaBPlain
import Derived.Test.YtgdhpkfielibbaaBBoard
import Derived.Test.YtgdhpkfielibbaaBBoardLaws
import Derived.Test.YtgdhpkfielibbaaXw
import Derived.Test.YtgdhpkfielibbaaK
import Derived.Test.YtgdhpkfielibbaaF0
set_option linter.unusedVariables false
set_option linter.unusedSimpArgs false
namespace Go.X
open Go.Proofs
namespace RefBoard
open Board BoardLaws
theorem r_flight_tri (b : Nat) (v : List Pc × Int) (hl : v.1.length ≤ 4294967296) : Tri Try.prog N_canterref20_Board_Flight [.lf (.ptr (some ⟨b, 0⟩))] [.lf (.int .u64)] (brd b v) (fun r => pur (r = flightF v.1) (brd b v)) :=
  tri_0 (call_canterref20_Board_Flight _) fun w0 S R h => by
    unfold W_canterref20_Board_Flight
    obtain ⟨s, h⟩ := (h.le (star_emp _)).brd b
    have h : Own w0 S R w0 (arr s K_u6b3 v.1 ^ blk b [.sl s, .int .u64 v.2]) := h.fin
    have hs := (h.rd (s := s)).2
    refine w_loop (fun (_ : Int × Int) => arr s K_u6b3 v.1 ^ blk b [.sl s, .int .u64 v.2]) (fun (y : Int × Int) => (0 ≤ y.2 ∧ y.2 ≤ v.1.length) ∧ y.1 = flightF (v.1.take y.2.toNat)) (fun (y : Int × Int) => v.1.length - y.2.toNat) h ⟨⟨by simp, by simp⟩, rfl⟩ ?_
    rintro (⟨n, i⟩ : Int × Int) w ⟨⟨h0, h1⟩, h2⟩ h
    dsimp only at h0 h1 h2 h ⊢
    refine w_deref (w_ld h rfl ?_)
    refine w_ite (fun c => ?_) fun c => ?_
    · have hi : i.toNat < v.1.length := by simp at c; omega
      obtain ⟨p, hp⟩ : ∃ p, v.1[i.toNat]? = some p := ⟨_, at_some hi⟩
      have e : (i + 1).toNat = i.toNat + 1 := by omega
      have hfl := flight_take hp
      rw [wi (n := i + 1) (by omega) (by omega)]
      refine w_join h (fun _ => arr s K_u6b3 v.1 ^ blk b [.sl s, .int .u64 v.2]) (fun (y : Bool) => y = flyP p) (fun (y : Bool) w hy h => ?_) ?_
      · refine w_ite (fun c => ?_) fun c => ?_
        · refine w_drw h fun w h => ?_
          refine w_deref (w_deref (w_ld h rfl (w_ld h rfl ?_)))
          refine w_idx h h0 hi (w_idx h h0 hi ?_)
          refine w_ldA h s i.toNat 1 p hp rfl (by decide) rfl ?_
          refine w_ldA h s i.toNat 0 p hp rfl (by decide) rfl ?_
          refine ⟨⟨⟨⟨by show 0 ≤ i + 1; omega, by show i + 1 ≤ _; omega⟩, ?_⟩, h⟩, by show _ - (i + 1).toNat < _; omega⟩
          show IntKind.u64.wrap (IntKind.u64.wrap (n + pTo p) - pFrom p) = flightF (v.1.take (i + 1).toNat)
          rw [e, hfl, addF, if_pos (by rw [← hy]; exact c), ← h2, add_sub]
        · refine ⟨⟨⟨⟨by show 0 ≤ i + 1; omega, by show i + 1 ≤ _; omega⟩, ?_⟩, h⟩, by show _ - (i + 1).toNat < _; omega⟩
          show n = flightF (v.1.take (i + 1).toNat)
          rw [e, hfl, addF, if_neg (by rw [← hy, c]; simp), h2]
      · refine w_deref (w_ld h rfl ?_)
        refine w_idx h h0 hi ?_
        refine w_ldA h s i.toNat 7 p hp rfl (by decide) rfl ?_
        refine w_ite (fun c => ?_) fun c => ?_
        · refine w_deref (w_ld h rfl ?_)
          refine w_idx h h0 hi ?_
          refine w_ldA h s i.toNat 8 p hp rfl (by decide) rfl ?_
          exact ⟨by have c : (!pSk p) = true := c; rw [flyP, c]; rfl, h⟩
        · exact ⟨by have c : (!pSk p) = false := c; rw [flyP, c]; rfl, h⟩
    · have hi : i.toNat = v.1.length := by simp at c; omega
      rw [hi, List.take_length] at h2
      exact Own.retP h2 ((h.le (star_comm _ _)).mkBrd b s v.1 v.2).fin
theorem r_lost_tri (b : Nat) (v : List Pc × Int) (hl : v.1.length ≤ 4294967296) : Tri Try.prog N_canterref20_Board_lost [.lf (.ptr (some ⟨b, 0⟩))] [.lf (.int .i64)] (brd b v) (fun r => pur (r = fI pLo v.1) (brd b v)) :=
  tri_0 (call_canterref20_Board_lost _) fun w0 S R h => by
    unfold W_canterref20_Board_lost
    obtain ⟨s, h⟩ := (h.le (star_emp _)).brd b
    have h : Own w0 S R w0 (arr s K_u6b3 v.1 ^ blk b [.sl s, .int .u64 v.2]) := h.fin
    have hs := (h.rd (s := s)).2
    refine w_loop (fun (_ : Int) => arr s K_u6b3 v.1 ^ blk b [.sl s, .int .u64 v.2]) (fun (i : Int) => (0 ≤ i ∧ i ≤ v.1.length) ∧ ∀ j y, j < i.toNat → v.1[j]? = some y → pLo y = false) (fun (i : Int) => v.1.length - i.toNat) h ⟨⟨by simp, by simp⟩, fun j y hj => by simp at hj⟩ ?_
    rintro (i : Int) w ⟨⟨h0, h1⟩, h2⟩ h
    refine w_deref (w_ld h rfl ?_)
    refine w_ite (fun c => ?_) fun c => ?_
    · have hi : i.toNat < v.1.length := by simp at c; omega
      obtain ⟨p, hp⟩ : ∃ p, v.1[i.toNat]? = some p := ⟨_, at_some hi⟩
      have e : (i + 1).toNat = i.toNat + 1 := by omega
      refine w_deref (w_ld h rfl ?_)
      refine w_idx h h0 hi ?_
      refine w_ldA h s i.toNat 8 p hp rfl (by decide) rfl ?_
      refine w_ite (fun c => ?_) fun c => ?_
      · refine Own.retP ?_ ((h.le (star_comm _ _)).mkBrd b s v.1 v.2).fin
        rw [fI_at hp c h2]; exact (Int.toNat_of_nonneg h0).symm
      · rw [wi (n := i + 1) (by omega) (by omega)]
        refine ⟨⟨⟨⟨by show 0 ≤ i + 1; omega, by show i + 1 ≤ _; omega⟩, fun j y hj hy => ?_⟩, h⟩, by show _ - (i + 1).toNat < _; omega⟩
        have hj : j < (i + 1).toNat := hj
        by_cases hji : j = i.toNat
        · rw [hji, hp] at hy; cases hy; exact c
        · exact h2 j y (by omega) hy
    · have hi : i.toNat = v.1.length := by simp at c; omega
      refine Own.retP ?_ ((h.le (star_comm _ _)).mkBrd b s v.1 v.2).fin
      rw [fI_none]
      intro y hy
      obtain ⟨j, hj, rfl⟩ := List.mem_iff_getElem.1 hy
      exact h2 j _ (by omega) (at_some hj)
theorem r_Lost_tri (b : Nat) (v : List Pc × Int) (hl : v.1.length ≤ 4294967296) : Tri Try.prog N_canterref20_Board_Lost [.lf (.ptr (some ⟨b, 0⟩))] [.agg KR, .lf .bool] (brd b v) (fun r => pur (r = lostF v.1) (brd b v)) :=
  tri_0 (call_canterref20_Board_Lost _) fun w0 S R h => by
    unfold W_canterref20_Board_Lost
    refine w_new h fun n1 w h => ?_
    refine w_call (r_lost_tri b v hl) h fun r w h => ?_
    obtain ⟨hr, h⟩ := h.purP
    rw [hr]
    refine w_ite (fun c => ?_) fun c => ?_
    · refine w_set h rfl fun w h => ?_
      dsimp only [upd, over] at h
      refine w_ldAll (x := ((0 : Int), (0 : Int))) h rfl ?_
      exact Own.retP (lostF_no (by simpa using c)).symm h.fin
    · have hpos : 0 ≤ fI pLo v.1 := by simp at c; omega
      obtain ⟨p, hp, _, hlt, _⟩ := fI_some hpos
      obtain ⟨s, h⟩ := h.brd b
      have h : Own w0 S R w (arr s K_u6b3 v.1 ^ blk b [.sl s, .int .u64 v.2] ^ blk n1 [.int .u64 0, .int .u64 0]) := h.fin
      refine w_drw h fun w h => ?_
      refine w_deref (w_deref (w_ld h rfl (w_ld h rfl ?_)))
      refine w_idx h hpos hlt (w_idx h hpos hlt ?_)
      refine w_ldA h s _ 0 p hp rfl (by decide) rfl ?_
      refine w_ldA h s _ 1 p hp rfl (by decide) rfl ?_
      refine w_set h rfl fun w h => ?_
      dsimp only [upd, over] at h
      refine w_ldAll (x := (p.1, p.2.1)) h rfl ?_
      exact Own.retP (lostF_yes hpos hp).symm (h.mkBrd b s v.1 v.2).fin
theorem r_sent_tri (b : Nat) (f t : Int) (s : Snt) (v : List Pc × Int) :
    Tri Try.prog N_canterref20_Board_Sent [.lf (.ptr (some ⟨b, 0⟩)), .lf (.int .u64 f), .lf (.int .u64 t), .agg (Ks.mk K_u4b s)] [.lf (.int .i64)] (brd b v)
      (fun r => pur (r = (sentF v f t s).1) (brd b (sentF v f t s).2)) :=
  tri_0 (call_canterref20_Board_Sent _ _ _ _) fun w0 S R h => by
    unfold W_canterref20_Board_Sent
    refine w_new h fun n1 w h => ?_
    obtain ⟨sl, h⟩ := h.brd b
    have hlen := (h.rd (s := sl)).2
    refine w_deref (w_ld h rfl ?_)
    refine w_ite (fun hc => ?_) fun hc => ?_
    · have e1 : sentF v f t s = (1, v) := by simp at hc; simp [sentF, hc]
      rw [e1]
      exact Own.retP rfl (h.mkBrd b sl v.1 v.2).keep
    · refine w_deref (w_ld h rfl ?_)
      refine w_ite (fun hc2 => ?_) fun hc2 => ?_
      · have e1 : sentF v f t s = (5, v) := by
          simp at hc hc2
          rw [sentF, if_neg (by omega), if_pos (by omega)]
        rw [e1]
        exact Own.retP rfl (h.mkBrd b sl v.1 v.2).keep
      · have e1 : sentF v f t s = (0, (v.1 ++ [mkPc f t s], t)) := by
          simp at hc hc2
          rw [sentF, if_neg (by omega), if_neg (by omega)]
        have hl4 : v.1.length < 4096 := by simp at hc2; omega
        rw [e1]
        refine w_drw h fun w h => ?_
        refine w_ldAll h rfl ?_
        refine w_deref (w_ld h rfl ?_)
        refine ⟨?_, ?_⟩
        · have h := h.nil K_u6b3
          refine w_app (K := K_u6b3) (s := ⟨none, 0, 0⟩) (x := sl) h rfl (by simp; omega) fun s9 w hl h => ?_
          have h := h.arrEq (s := s9) (K := K_u6b3) (List.nil_append _)
          refine w_chkAll h ?_
          refine w_new h fun n10 w h => ?_
          refine w_chk h rfl ?_
          have h := h.blkArr n10 K_u6b3 [mkPc f t s] rfl (by simp)
          refine w_app (K := K_u6b3) (s := s9) (x := ⟨some ⟨n10, 0⟩, 1, 1⟩) h rfl (by simp; omega) fun s10 w hl h => ?_
          refine w_deref (w_set h rfl fun w h => ?_)
          dsimp only [upd, over] at h
          refine w_deref (w_set h rfl fun w h => ?_)
          dsimp only [upd, over] at h
          exact Own.retP rfl (h.mkBrd b s10 (v.1 ++ [mkPc f t s]) t).keep
        · refine w_new h fun n10 w h => ?_
          refine w_chk h rfl ?_
          have h := h.blkArr n10 K_u6b3 [mkPc f t s] rfl (by simp)
          have h := h.nil K_u6b3
          refine w_app (K := K_u6b3) (s := ⟨none, 0, 0⟩) (x := sl) h rfl (by simp; omega) fun s9 w hl h => ?_
          have h := h.arrEq (s := s9) (K := K_u6b3) (List.nil_append _)
          refine w_chkAll h ?_
          refine w_app (K := K_u6b3) (s := s9) (x := ⟨some ⟨n10, 0⟩, 1, 1⟩) h rfl (by simp; omega) fun s10 w hl h => ?_
          refine w_deref (w_set h rfl fun w h => ?_)
          dsimp only [upd, over] at h
          refine w_deref (w_set h rfl fun w h => ?_)
          dsimp only [upd, over] at h
          exact Own.retP rfl (h.mkBrd b s10 (v.1 ++ [mkPc f t s]) t).keep
theorem lose_or (p : Pc) : (if pLo p then setLo p true else setLo p (!pSk p)) = loseP p := by
  obtain ⟨a1, a2, a3, a4, a5, a6, a7, a8, a9⟩ := p
  cases a8 <;> cases a9 <;> rfl
theorem r_lose_tri (b : Nat) (v : List Pc × Int) (hl : v.1.length ≤ 4294967295) : Tri Try.prog N_canterref20_Board_Lose [.lf (.ptr (some ⟨b, 0⟩))] [.lf (.int .u64)] (brd b v) (fun x => pur (x = flightF v.1) (brd b (v.1.map loseP, v.2))) :=
  tri_0 (call_canterref20_Board_Lose _) fun w0 S R h => by
    unfold W_canterref20_Board_Lose
    refine w_call (r_flight_tri b v (by omega)) (h.le (star_emp _)) fun r1 w h => ?_
    obtain ⟨hr1, h⟩ := h.purP
    obtain ⟨s, h⟩ := h.brd b
    have hs := (h.rd (s := s)).2
    have h := h.nil K_u6b3
    have h : Own w0 S R w (arr ⟨none, 0, 0⟩ K_u6b3 [] ^ arr s K_u6b3 v.1 ^ blk b [.sl s, .int .u64 v.2]) := h.fin
    refine w_loop (fun (y : Sl × Int) => arr y.1 K_u6b3 ((v.1.take y.2.toNat).map loseP) ^ arr s K_u6b3 v.1 ^ blk b [.sl s, .int .u64 v.2]) (fun (y : Sl × Int) => 0 ≤ y.2 ∧ y.2 ≤ v.1.length) (fun (y : Sl × Int) => v.1.length - y.2.toNat) h ⟨by simp, by simp⟩ ?_
    rintro (⟨t, i⟩ : Sl × Int) w ⟨h0, h1⟩ h
    dsimp only at h0 h1 h ⊢
    refine w_deref (w_ld h rfl ?_)
    refine w_ite (fun c => ?_) fun c => ?_
    · have hi : i.toNat < v.1.length := by simp at c; omega
      obtain ⟨p, hp⟩ : ∃ p, v.1[i.toNat]? = some p := ⟨_, at_some hi⟩
      have e : (i + 1).toNat = i.toNat + 1 := by omega
      have ht : (v.1.take (i.toNat + 1)).map loseP = (v.1.take i.toNat).map loseP ++ [loseP p] := by rw [List.take_add_one, hp]; simp
      have h' := h.le (star_swap _ _ _)
      refine w_deref (w_ld h rfl ?_)
      refine w_idx h' h0 hi ?_
      refine w_ldE h' s i.toNat hp rfl ?_
      refine w_new h fun n w h => ?_
      refine w_setAll h (by rfl) fun w h => ?_
      refine w_join h (fun _ => blk n (Ks.mk K_u6b3 (loseP p)) ^ arr t K_u6b3 ((v.1.take i.toNat).map loseP) ^ arr s K_u6b3 v.1 ^ blk b [.sl s, .int .u64 v.2]) (fun _ => True) (fun y w _ h => ?_) ?_
      · refine w_ldAll h rfl ?_
        refine w_new h fun m w h => ?_
        have h := h.blkArr m K_u6b3 [loseP p] rfl (by simp)
        refine w_app (K := K_u6b3) (s := t) (x := ⟨some ⟨m, 0⟩, 1, 1⟩) h rfl (by simp; omega) fun s' w _ h => ?_
        have h := h.arrEq (s := s') (K := K_u6b3) (ys := (v.1.take (i + 1).toNat).map loseP) (by rw [e, ht])
        rw [wi (n := i + 1) (by omega) (by omega)]
        exact ⟨⟨⟨by show 0 ≤ i + 1; omega, by show i + 1 ≤ _; omega⟩, h.fin⟩, by show _ - (i + 1).toNat < _; omega⟩
      · refine w_ld h rfl ?_
        have hlo := lose_or p
        refine w_ite (fun c => ?_) fun c => ?_
        · have c : pLo p = true := c
          rw [if_pos c] at hlo
          refine w_set h rfl fun w h => ?_
          have h : Own w0 S R w (blk n (Ks.mk K_u6b3 (setLo p true)) ^ _) := h
          rw [hlo] at h
          exact ⟨trivial, h.fin⟩
        · have c : pLo p = false := c
          rw [if_neg (by rw [c]; simp)] at hlo
          refine w_ld h rfl ?_
          refine w_set h rfl fun w h => ?_
          have h : Own w0 S R w (blk n (Ks.mk K_u6b3 (setLo p (!pSk p))) ^ _) := h
          rw [hlo] at h
          exact ⟨trivial, h.fin⟩
    · have hi : i.toNat = v.1.length := by simp at c; omega
      rw [hi, List.take_length] at h
      refine w_deref (w_set h rfl fun w h => ?_)
      dsimp only [upd, over] at h
      exact Own.retP hr1 (h.mkBrd b t (v.1.map loseP) v.2).fin
theorem r_Again_tri (b : Nat) (s : Snt) (v : List Pc × Int) (hl : v.1.length ≤ 4294967296) : Tri Try.prog N_canterref20_Board_Again [.lf (.ptr (some ⟨b, 0⟩)), .agg (Ks.mk K_u4b s)] [.agg KR, .lf .bool] (brd b v) (fun r => pur (r = lostF v.1) (brd b (againF v.1 s, v.2))) :=
  tri_0 (call_canterref20_Board_Again _ _) fun w0 S R h => by
    unfold W_canterref20_Board_Again
    refine w_new h fun n1 w h => ?_
    refine w_new h fun n2 w h => ?_
    refine w_call (r_lost_tri b v hl) h fun r w h => ?_
    obtain ⟨hr, h⟩ := h.purP
    rw [hr]
    refine w_ite (fun c => ?_) fun c => ?_
    · have hneg : fI pLo v.1 < 0 := by simpa using c
      have e : againF v.1 s = v.1 := by unfold againF; split <;> simp [hneg]
      refine w_set h rfl fun w h => ?_
      dsimp only [upd, over] at h
      refine w_ldAll (x := ((0 : Int), (0 : Int))) h rfl ?_
      rw [e]
      exact Own.retP (lostF_no hneg).symm h.fin
    · have hpos : 0 ≤ fI pLo v.1 := by simp at c; omega
      obtain ⟨p, hp, _, hlt, _⟩ := fI_some hpos
      have e : againF v.1 s = v.1.set (fI pLo v.1).toNat (againP p s) := by
        unfold againF; rw [hp]; simp only; rw [if_neg (by omega)]
      obtain ⟨sl, h⟩ := h.brd b
      refine w_deref (w_ld h rfl ?_)
      have h := h.nil K_u6b3
      refine w_app (K := K_u6b3) (s := ⟨none, 0, 0⟩) (x := sl) h rfl (by simp; omega) fun s7 w hl7 h => ?_
      have h := h.arrEq (s := s7) (K := K_u6b3) (List.nil_append _)
      refine w_drw h fun w h => ?_
      refine w_ldAll h rfl ?_
      refine w_idx h hpos hlt ?_
      refine w_stA h s7 _ 8 p (setLo p false) hp rfl (by decide) (by simp) rfl fun w h => ?_
      have hp2 : (v.1.set (fI pLo v.1).toNat (setLo p false))[(fI pLo v.1).toNat]? = some (setLo p false) := by rw [List.getElem?_set_self hlt]
      refine w_chkAll h ?_
      refine w_idx h hpos (by rw [List.length_set]; exact hlt) ?_
      refine w_stA h s7 _ 2 (setLo p false) (againP p s) hp2 rfl (by simp [Ks.len]) (by simp [Ks.mk]) rfl fun w h => ?_
      rw [List.set_set] at h
      have hp3 : (v.1.set (fI pLo v.1).toNat (againP p s))[(fI pLo v.1).toNat]? = some (againP p s) := by rw [List.getElem?_set_self hlt]
      refine w_deref (w_set h rfl fun w h => ?_)
      dsimp only [upd, over] at h
      refine w_drw h fun w h => ?_
      have h := h.take (arr s7 K_u6b3 (v.1.set (fI pLo v.1).toNat (againP p s)))
      refine w_idx h hpos (by rw [List.length_set]; exact hlt) (w_idx h hpos (by rw [List.length_set]; exact hlt) ?_)
      refine w_ldA h s7 _ 0 _ hp3 rfl (by decide) rfl ?_
      refine w_ldA h s7 _ 1 _ hp3 rfl (by decide) rfl ?_
      refine w_set h rfl fun w h => ?_
      dsimp only [upd, over] at h
      refine w_ldAll (x := (p.1, p.2.1)) h rfl ?_
      rw [e]
      exact Own.retP (lostF_yes hpos hp).symm (h.mkBrd b s7 (v.1.set (fI pLo v.1).toNat (againP p s)) v.2).fin
theorem r_within_tri (p : Pc) (a : Sl) (xs : List (Ks.T KR)) (hx : xs.length ≤ 4294967296) : Tri Try.prog N_canterref20_within [.agg (Ks.mk K_u6b3 p), .lf (.sl a)] [.lf .bool] (emp ^ rarr a KR xs) (fun r => pur (r = xs.any (inF p)) emp) :=
  tri_0 (call_canterref20_within _ _) fun w0 S R h => by
    unfold W_canterref20_within
    have ha := (h.drop.rd (s := a)).2
    refine w_new h fun n w h => ?_
    have h : Own w0 S R w (rarr a KR xs ^ blk n (Ks.mk K_u6b3 p)) := h.fin
    refine w_loop (fun (_ : Int) => rarr a KR xs ^ blk n (Ks.mk K_u6b3 p)) (fun (i : Int) => (0 ≤ i ∧ i ≤ xs.length) ∧ xs.any (inF p) = (xs.drop i.toNat).any (inF p)) (fun (i : Int) => xs.length - i.toNat) h ⟨⟨by simp, by simp⟩, rfl⟩ ?_
    rintro (i : Int) w ⟨⟨h0, h1⟩, h2⟩ h
    refine w_ite (fun c => ?_) fun c => ?_
    · have hi : i.toNat < xs.length := by simp at c; omega
      obtain ⟨x, hx⟩ : ∃ x, xs[i.toNat]? = some x := ⟨_, at_some hi⟩
      have e : (i + 1).toNat = i.toNat + 1 := by omega
      rw [drop_at hx, List.any_cons] at h2
      have hgo : inF p x = false → (((0 ≤ IntKind.i64.wrap (i + 1) ∧ IntKind.i64.wrap (i + 1) ≤ xs.length) ∧ xs.any (inF p) = (xs.drop (IntKind.i64.wrap (i + 1)).toNat).any (inF p)) ∧ Own w0 S R w (rarr a KR xs ^ blk n (Ks.mk K_u6b3 p))) ∧ xs.length - (IntKind.i64.wrap (i + 1)).toNat < xs.length - i.toNat := fun hf => by
        rw [wi (n := i + 1) (by omega) (by omega), e]
        rw [hf, Bool.false_or] at h2
        exact ⟨⟨⟨⟨by omega, by omega⟩, h2⟩, h⟩, by omega⟩
      clear hgo
      refine w_drw h fun w h => ?_
      refine w_idx h h0 hi ?_
      refine w_ld h rfl ?_
      refine w_ldA h a i.toNat 0 x hx rfl (by decide) rfl ?_
      have hgo : inF p x = false → (((0 ≤ IntKind.i64.wrap (i + 1) ∧ IntKind.i64.wrap (i + 1) ≤ xs.length) ∧ xs.any (inF p) = (xs.drop (IntKind.i64.wrap (i + 1)).toNat).any (inF p)) ∧ Own w0 S R w (rarr a KR xs ^ blk n (Ks.mk K_u6b3 p))) ∧ xs.length - (IntKind.i64.wrap (i + 1)).toNat < xs.length - i.toNat := fun hf => by
        rw [wi (n := i + 1) (by omega) (by omega), e]
        rw [hf, Bool.false_or] at h2
        exact ⟨⟨⟨⟨by omega, by omega⟩, h2⟩, h⟩, by omega⟩
      refine w_ite (fun c => ?_) fun c => ?_
      · refine w_idx h h0 hi ?_
        refine w_ld h rfl ?_
        refine w_ldA h a i.toNat 1 x hx rfl (by decide) rfl ?_
        refine w_ite (fun c2 => ?_) fun c2 => ?_
        · refine Own.retP ?_ h.emp'
          have : inF p x = true := by
            have c : decide (x.1 ≤ p.1) = true := c
            have c2 : decide (x.2 ≥ p.2.1) = true := c2
            rw [inF, c, c2]; rfl
          rw [h2, this]; rfl
        · exact hgo (by
            have c : decide (x.1 ≤ p.1) = true := c
            have c2 : decide (x.2 ≥ p.2.1) = false := c2
            rw [inF, c, c2]; rfl)
      · exact hgo (by
          have c : decide (x.1 ≤ p.1) = false := c
          rw [inF, c]; rfl)
    · have hi : i.toNat = xs.length := by simp at c; omega
      rw [hi, List.drop_length] at h2
      exact Own.retP (by rw [h2]; rfl) h.emp'
theorem bad_take {e : Int} {xs : List (Int × Int)} {i : Nat} {x : Int × Int} (h : xs[i]? = some x) : (xs.take (i + 1)).any (outF e) = ((xs.take i).any (outF e) || outF e x) := by
  rw [List.take_add_one, h, List.any_append]; simp
def ackPost (b : Nat) (v : List Pc × Int) (upto : Int) (xs : List (Int × Int)) (r : Sl × Int × Int) : SP :=
  cond (mayF v upto xs) (pur (r.2.1 = (passF (restL upto xs v.1)).2.1 ∧ r.2.2 = 0) (arr r.1 K_u6b3 (toldL upto xs v.1) ^ brd b ((passF (restL upto xs v.1)).1, v.2)))
    (pur (r.1 = ⟨none, 0, 0⟩ ∧ r.2.1 = 0 ∧ r.2.2 = 11) (arr r.1 K_u6b3 [] ^ brd b v))
theorem r_ack_tri (b : Nat) (v : List Pc × Int) (upto : Int) (a : Sl) (xs : List (Ks.T KR)) (hl : v.1.length ≤ 4294967295) (hx : xs.length ≤ 4294967296) :
    Tri Try.prog N_canterref20_Board_Ack [.lf (.ptr (some ⟨b, 0⟩)), .lf (.int .u64 upto), .lf (.sl a)] [.lf .sl, .lf (.int .u64), .lf (.int .i64)] (brd b v ^ rarr a KR xs) (ackPost b v upto xs) :=
  tri_0 (call_canterref20_Board_Ack _ _ _) fun w0 S R h => by
    unfold W_canterref20_Board_Ack
    obtain ⟨s, h⟩ := h.brd b
    have h : Own w0 S R w0 (rarr a KR xs ^ blk b [.sl s, .int .u64 v.2] ^ arr s K_u6b3 v.1) := h.fin
    have ha := (h.rd (s := a)).2
    have hs := ((h.take (arr s K_u6b3 v.1)).rd (s := s)).2
    refine w_deref (w_ld h rfl ?_)
    refine w_loop (fun (_ : Bool × Int) => rarr a KR xs ^ blk b [.sl s, .int .u64 v.2] ^ arr s K_u6b3 v.1) (fun (y : Bool × Int) => (0 ≤ y.2 ∧ y.2 ≤ xs.length) ∧ y.1 = (decide (upto > v.2) || (xs.take y.2.toNat).any (outF v.2))) (fun (y : Bool × Int) => xs.length - y.2.toNat) h ⟨⟨by simp, by simp⟩, by simp⟩ ?_
    rintro (⟨bad, i⟩ : Bool × Int) w ⟨⟨h0, h1⟩, h2⟩ h
    dsimp only at h0 h1 h2 h ⊢
    refine w_ite (fun c => ?_) fun c => ?_
    · have hi : i.toNat < xs.length := by simp at c; omega
      obtain ⟨x, hx⟩ : ∃ x, xs[i.toNat]? = some x := ⟨_, at_some hi⟩
      have e : (i + 1).toNat = i.toNat + 1 := by omega
      have hbt := bad_take (e := v.2) hx
      rw [wi (n := i + 1) (by omega) (by omega)]
      refine w_drw h fun w h => ?_
      have hgo : ∀ c : Bool, c = (bad || outF v.2 x) → (((0 ≤ (c, i + 1).2 ∧ (c, i + 1).2 ≤ (xs.length : Int)) ∧ (c, i + 1).1 = (decide (upto > v.2) || (xs.take (c, i + 1).2.toNat).any (outF v.2))) ∧ Own w0 S R w (rarr a KR xs ^ blk b [.sl s, .int .u64 v.2] ^ arr s K_u6b3 v.1)) ∧ xs.length - (c, i + 1).2.toNat < xs.length - (bad, i).2.toNat := fun c hc => by
        dsimp only
        rw [e, hbt, hc, h2, Bool.or_assoc]
        exact ⟨⟨⟨⟨by omega, by omega⟩, rfl⟩, h⟩, by omega⟩
      refine w_ite (fun c => ?_) fun c => ?_
      · exact hgo true (by have c : bad = true := c; rw [c]; rfl)
      · have hb0 : bad = false := c
        refine w_idx h h0 hi (w_deref ?_)
        refine w_ldA h a i.toNat 1 x hx rfl (by decide) rfl ?_
        refine w_ld h rfl ?_
        refine w_ite (fun c => ?_) fun c => ?_
        · exact hgo true (by have c : decide (x.2 > v.2) = true := c; rw [outF, c]; simp)
        · refine w_idx h h0 hi (w_idx h h0 hi ?_)
          refine w_ldA h a i.toNat 0 x hx rfl (by decide) rfl ?_
          refine w_ldA h a i.toNat 1 x hx rfl (by decide) rfl ?_
          exact hgo _ (by have c : decide (x.2 > v.2) = false := c; rw [hb0, outF, c]; rfl)
    have hi : i.toNat = xs.length := by simp at c; omega
    rw [hi, List.take_length] at h2
    have hbm : bad = !mayF v upto xs := by
      rw [h2, mayF, Bool.not_and, Bool.not_not]; congr 1
      by_cases hh : upto ≤ v.2
      · rw [decide_eq_true hh, decide_eq_false (by omega)]; rfl
      · rw [decide_eq_false hh, decide_eq_true (by omega)]; rfl
    refine w_ite (fun c => ?_) fun c => ?_
    · have hm : mayF v upto xs = false := by rw [show bad = true from c] at hbm; simpa using hbm.symm
      have h := (h.nil K_u6b3).mkBrd b s v.1 v.2
      show Own _ _ _ _ (ackPost b v upto xs _)
      rw [ackPost, hm]
      exact Own.retP ⟨rfl, rfl, rfl⟩ h.fin
    have hm : mayF v upto xs = true := by rw [show bad = false from c] at hbm; simpa using hbm.symm
    have h := (h.nil K_u6b3).nil K_u6b3
    have h : Own w0 S R w (arr s K_u6b3 v.1 ^ blk b [.sl s, .int .u64 v.2] ^ arr ⟨none, 0, 0⟩ K_u6b3 [] ^ arr ⟨none, 0, 0⟩ K_u6b3 [] ^ rarr a KR xs) := h.fin
    refine w_loop (fun (y : Sl × Sl × Int) => arr s K_u6b3 v.1 ^ blk b [.sl s, .int .u64 v.2] ^ arr y.1 K_u6b3 (restL upto xs (v.1.take y.2.2.toNat)) ^ arr y.2.1 K_u6b3 (toldL upto xs (v.1.take y.2.2.toNat)) ^ rarr a KR xs)
      (fun (y : Sl × Sl × Int) => 0 ≤ y.2.2 ∧ y.2.2 ≤ v.1.length) (fun (y : Sl × Sl × Int) => v.1.length - y.2.2.toNat) h ⟨by simp, by simp⟩ ?_
    rintro (⟨rs, ts, i⟩ : Sl × Sl × Int) w ⟨h0, h1⟩ h
    dsimp only at h0 h1 h ⊢
    refine w_deref (w_ld h rfl ?_)
    refine w_ite (fun c => ?_) fun c => ?_
    · have hi : i.toNat < v.1.length := by simp at c; omega
      obtain ⟨p, hp⟩ : ∃ p, v.1[i.toNat]? = some p := ⟨_, at_some hi⟩
      have ht := toldL_take (upto := upto) (xs := xs) hp
      have hrt := restL_take (upto := upto) (xs := xs) hp
      have hlt := toldL_len upto xs v.1 i.toNat
      have hlr := restL_len upto xs v.1 i.toNat
      have e : (i + 1).toNat = i.toNat + 1 := by omega
      rw [wi (n := i + 1) (by omega) (by omega)]
      refine w_deref (w_ld h rfl ?_)
      refine w_idx h h0 hi ?_
      refine w_ldE h s i.toNat hp rfl ?_
      refine w_new h fun n w h => ?_
      refine w_setAll h (by rfl) fun w h => ?_
      refine w_join h (fun _ => blk n (Ks.mk K_u6b3 p) ^ arr s K_u6b3 v.1 ^ blk b [.sl s, .int .u64 v.2] ^ arr rs K_u6b3 (restL upto xs (v.1.take i.toNat)) ^ arr ts K_u6b3 (toldL upto xs (v.1.take i.toNat)) ^ rarr a KR xs)
        (fun (y : Bool × Bool) => y.1 = decide (p.2.1 ≤ upto) ∧ y.2 = (!pSk p && xs.any (inF p))) (fun (y : Bool × Bool) w hy h => ?_) ?_
      · obtain ⟨hy1, hy2⟩ := hy
        refine w_join h (fun (z : Sl) => blk n (Ks.mk K_u6b3 p) ^ arr s K_u6b3 v.1 ^ blk b [.sl s, .int .u64 v.2] ^ arr rs K_u6b3 (restL upto xs (v.1.take i.toNat)) ^ arr z K_u6b3 (toldL upto xs (v.1.take (i.toNat + 1))) ^ rarr a KR xs) (fun _ => True) (fun (z : Sl) w _ h => ?_) ?_
        · refine w_ite (fun c => ?_) fun c => ?_
          · have hu : p.2.1 ≤ upto := by rw [hy1] at c; simpa using c
            rw [if_pos hu, List.append_nil] at hrt
            refine ⟨⟨⟨by show 0 ≤ i + 1; omega, by show i + 1 ≤ _; omega⟩, ?_⟩, by show _ - (i + 1).toNat < _; omega⟩
            show Own _ _ _ _ (arr s K_u6b3 v.1 ^ blk b [.sl s, .int .u64 v.2] ^ arr rs K_u6b3 (restL upto xs (v.1.take (i + 1).toNat)) ^ arr z K_u6b3 (toldL upto xs (v.1.take (i + 1).toNat)) ^ rarr a KR xs)
            rw [e, hrt]; exact h.fin
          · have hu : ¬ p.2.1 ≤ upto := by rw [hy1] at c; simpa using c
            rw [if_neg hu] at hrt
            have hmk : markP upto xs p = if y.2 then setSk p else p := by
              rw [markP, toldP, decide_eq_false hu, Bool.false_or, hy2]
            refine w_join h (fun _ => blk n (Ks.mk K_u6b3 (markP upto xs p)) ^ arr s K_u6b3 v.1 ^ blk b [.sl s, .int .u64 v.2] ^ arr rs K_u6b3 (restL upto xs (v.1.take i.toNat)) ^ arr z K_u6b3 (toldL upto xs (v.1.take (i.toNat + 1))) ^ rarr a KR xs) (fun _ => True) (fun _ w _ h => ?_) ?_
            · refine w_ldAll h rfl ?_
              refine w_new h fun m w h => ?_
              have h := h.blkArr m K_u6b3 [markP upto xs p] rfl (by simp)
              refine w_app (K := K_u6b3) (s := rs) (x := ⟨some ⟨m, 0⟩, 1, 1⟩) h rfl (by simp; omega) fun s' w _ h => ?_
              refine ⟨⟨⟨by show 0 ≤ i + 1; omega, by show i + 1 ≤ _; omega⟩, ?_⟩, by show _ - (i + 1).toNat < _; omega⟩
              show Own _ _ _ _ (arr s K_u6b3 v.1 ^ blk b [.sl s, .int .u64 v.2] ^ arr s' K_u6b3 (restL upto xs (v.1.take (i + 1).toNat)) ^ arr z K_u6b3 (toldL upto xs (v.1.take (i + 1).toNat)) ^ rarr a KR xs)
              rw [e, hrt]; exact h.fin
            · refine w_ite (fun c2 => ?_) fun c2 => ?_
              · have c2 : y.2 = true := c2
                rw [c2, if_pos rfl] at hmk
                refine w_set h rfl fun w h => ?_
                refine w_set h rfl fun w h => ?_
                have h : Own w0 S R w (blk n (Ks.mk K_u6b3 (setSk p)) ^ _) := h
                rw [← hmk] at h
                exact ⟨trivial, h.fin⟩
              · have c2 : y.2 = false := c2
                rw [c2, if_neg (by simp)] at hmk
                exact ⟨trivial, by rw [hmk]; exact h⟩
        · refine w_join h (fun _ => blk n (Ks.mk K_u6b3 p) ^ arr s K_u6b3 v.1 ^ blk b [.sl s, .int .u64 v.2] ^ arr rs K_u6b3 (restL upto xs (v.1.take i.toNat)) ^ arr ts K_u6b3 (toldL upto xs (v.1.take i.toNat)) ^ rarr a KR xs) (fun (z : Bool) => z = toldP upto xs p) (fun (z : Bool) w hz h => ?_) ?_
          · refine w_ite (fun c => ?_) fun c => ?_
            · have c : z = true := c
              rw [← hz, c, if_pos rfl] at ht
              refine w_ldAll h rfl ?_
              refine w_new h fun m w h => ?_
              have h := h.blkArr m K_u6b3 [p] rfl (by simp)
              refine w_app (K := K_u6b3) (s := ts) (x := ⟨some ⟨m, 0⟩, 1, 1⟩) h rfl (by simp; omega) fun s' w _ h => ?_
              rw [ht]
              exact ⟨trivial, h.fin⟩
            · have c : z = false := c
              rw [← hz, c] at ht
              simp only [Bool.false_eq_true, if_false, List.append_nil] at ht
              rw [ht]
              exact ⟨trivial, h⟩
          · refine w_ite (fun c => ?_) fun c => ?_
            · have c : y.1 = true := c
              refine w_ld h rfl ?_
              refine ⟨?_, h⟩
              show (!pSk p || (!y.1 && y.2)) = _
              rw [c] at hy1 ⊢
              rw [toldP, ← hy1]; simp
            · have c : y.1 = false := c
              refine ⟨?_, h⟩
              show (!y.1 && y.2) = _
              rw [c] at hy1 ⊢
              rw [toldP, ← hy1, hy2]; simp
      · refine w_drw h fun w h => ?_
        refine w_ld h rfl (w_ld h rfl ?_)
        refine w_ite (fun c => ?_) fun c => ?_
        · have c : (!pSk p) = true := c
          refine w_ldAll h rfl ?_
          refine w_callL (A := emp) (Q := rarr a KR xs) (r_within_tri p a xs hx) (h.le (star_emp _ |>.trans (star_comm _ _))) fun r w h => ?_
          obtain ⟨hr, h⟩ := h.purP
          refine w_chk h rfl ?_
          exact ⟨⟨rfl, by show r = _; rw [hr, c]; rfl⟩, h.fin⟩
        · have c : (!pSk p) = false := c
          exact ⟨⟨rfl, by show false = _; rw [c]; rfl⟩, h⟩
    have hi : i.toNat = v.1.length := by simp at c; omega
    rw [hi, List.take_length] at h
    have hrl : (restL upto xs v.1).length ≤ v.1.length := by
      have := restL_len upto xs v.1 v.1.length
      rwa [List.take_length] at this
    generalize hL : restL upto xs v.1 = L at h hrl
    have hlen := ((h.take (arr rs K_u6b3 L)).rd (s := rs)).2
    have hwn : IntKind.i64.wrap (((rs.len : Nat) : Int) - 1) = (L.length : Int) - 1 := by rw [hlen]; exact wi (by omega) (by omega)
    rw [hwn]
    have e1 : passF (L.drop ((L.length : Int) - 1 + 1).toNat) = ([], 0, 0) := by
      have e : ((L.length : Int) - 1 + 1).toNat = L.length := by omega
      rw [e]; simp [passF]
    have e0 : L.take ((L.length : Int) - 1 + 1).toNat ++ (passF (L.drop ((L.length : Int) - 1 + 1).toNat)).1 = L := by
      rw [e1, List.append_nil, List.take_of_length_le (by omega)]
    have h : Own w0 S R w (arr rs K_u6b3 (L.take ((L.length : Int) - 1 + 1).toNat ++ (passF (L.drop ((L.length : Int) - 1 + 1).toNat)).1) ^ blk b [.sl s, .int .u64 v.2] ^ arr ts K_u6b3 (toldL upto xs v.1)) := by rw [e0]; exact h.fin
    refine w_loop (fun (y : Int × Int × Int) => arr rs K_u6b3 (L.take (y.2.2 + 1).toNat ++ (passF (L.drop (y.2.2 + 1).toNat)).1) ^ blk b [.sl s, .int .u64 v.2] ^ arr ts K_u6b3 (toldL upto xs v.1))
      (fun (y : Int × Int × Int) => (-1 ≤ y.2.2 ∧ y.2.2 < L.length) ∧ y.1 = (passF (L.drop (y.2.2 + 1).toNat)).2.1 ∧ y.2.1 = (passF (L.drop (y.2.2 + 1).toNat)).2.2) (fun (y : Int × Int × Int) => (y.2.2 + 1).toNat) h ⟨⟨by show (-1 : Int) ≤ _ - 1; omega, by show _ - 1 < _; omega⟩, by rw [e1], by rw [e1]⟩ ?_
    rintro (⟨lost, above, i⟩ : Int × Int × Int) w ⟨⟨h0, h1⟩, h2, h3⟩ h
    dsimp only at h0 h1 h2 h3 h ⊢
    refine w_ite (fun c => ?_) fun c => ?_
    · have c : 0 ≤ i := by simpa using c
      obtain ⟨k, hk⟩ : ∃ k : Nat, i = k := ⟨i.toNat, by omega⟩
      have hk1 : (i + 1).toNat = k + 1 := by omega
      have hk0 : i.toNat = k := by omega
      have hk2 : (i - 1 + 1).toNat = k := by omega
      have hkl : k < L.length := by omega
      rw [hk1] at h2 h3 h
      obtain ⟨p, hp⟩ : ∃ p, L[k]? = some p := ⟨_, at_some hkl⟩
      have hd := drop_at hp
      have ht : L.take (k + 1) = L.take k ++ [p] := by rw [List.take_add_one, hp]; rfl
      have hlt : (L.take k).length = k := by rw [List.length_take]; omega
      have hpass : passF (L.drop k) = (if hitF p above then setLo p true :: (passF (L.drop (k + 1))).1 else p :: (passF (L.drop (k + 1))).1, if hitF p above then IntKind.u64.wrap (lost + IntKind.u64.wrap (p.2.1 - p.1)) else lost, abvF p above) := by
        rw [hd, passF, h2, h3]
      obtain ⟨ys, hys⟩ : ∃ ys, ys = L.take (k + 1) ++ (passF (L.drop (k + 1))).1 := ⟨_, rfl⟩
      have hxk : ys[i.toNat]? = some p := by
        rw [hk0, hys, List.getElem?_append_left (by rw [List.length_take]; omega), List.getElem?_take, if_pos (by omega), hp]
      have hxl : i.toNat < ys.length := (List.getElem?_eq_some_iff.1 hxk).1
      rw [← hys] at h
      have hw : IntKind.i64.wrap (i - 1) = i - 1 := wi (by omega) (by omega)
      rw [hw]
      have hgo : ∀ (w : World) (m n : Int) (zs : List Pc), zs = L.take k ++ (passF (L.drop k)).1 → m = (passF (L.drop k)).2.1 → n = (passF (L.drop k)).2.2 → Own w0 S R w (arr rs K_u6b3 zs ^ blk b [.sl s, .int .u64 v.2] ^ arr ts K_u6b3 (toldL upto xs v.1)) →
          (((-1 ≤ (m, n, i - 1).2.2 ∧ (m, n, i - 1).2.2 < L.length) ∧ (m, n, i - 1).1 = (passF (L.drop ((m, n, i - 1).2.2 + 1).toNat)).2.1 ∧ (m, n, i - 1).2.1 = (passF (L.drop ((m, n, i - 1).2.2 + 1).toNat)).2.2) ∧ Own w0 S R w (arr rs K_u6b3 (L.take ((m, n, i - 1).2.2 + 1).toNat ++ (passF (L.drop ((m, n, i - 1).2.2 + 1).toNat)).1) ^ blk b [.sl s, .int .u64 v.2] ^ arr ts K_u6b3 (toldL upto xs v.1))) ∧ ((m, n, i - 1).2.2 + 1).toNat < ((lost, above, i).2.2 + 1).toNat := by
        intro w m n zs hz hm hn h
        dsimp only
        rw [hk2, ← hz]
        exact ⟨⟨⟨⟨by omega, by omega⟩, hm, hn⟩, h⟩, by omega⟩
      refine w_idx h c hxl (w_deref ?_)
      refine w_ldA h rs i.toNat 7 p hxk rfl (by decide) rfl ?_
      refine w_ite (fun c2 => ?_) fun c2 => ?_
      · have c2 : pSk p = true := c2
        have hh : hitF p above = false := by simp [hitF, flyP, c2]
        have hab : abvF p above = IntKind.i64.wrap (above + 1) := by rw [abvF, if_pos c2]
        rw [hh] at hpass
        simp only [Bool.false_eq_true, if_false] at hpass
        exact hgo w _ _ ys (by rw [hpass, hys, ht]; simp) (by rw [hpass]) (by rw [hpass]; exact hab.symm) h
      · have c2 : pSk p = false := c2
        have hab : abvF p above = above := by rw [abvF, if_neg (by rw [c2]; simp)]
        have hh : hitF p above = (!pLo p && decide (above ≥ 3)) := by rw [hitF, flyP, c2, hab]; rfl
        refine w_deref ?_
        refine w_ldA h rs i.toNat 8 p hxk rfl (by decide) rfl ?_
        refine w_ite (fun c3 => ?_) fun c3 => ?_
        · have c3 : (!pLo p && decide (above ≥ 3)) = true := c3
          rw [hh, c3] at hpass
          simp only [if_true] at hpass
          refine w_deref (w_stA h rs i.toNat 8 p (setLo p true) hxk rfl (by decide) (by simp) rfl fun w h => ?_)
          have hset : ys.set i.toNat (setLo p true) = L.take k ++ (passF (L.drop k)).1 := by
            rw [hpass, hys, hk0, ht, List.append_assoc, List.set_append_right _ _ (by omega), hlt]
            simp
          have hx2 : (ys.set i.toNat (setLo p true))[i.toNat]? = some (setLo p true) := by rw [List.getElem?_set_self hxl]
          refine w_drw h fun w h => ?_
          refine w_deref (w_deref ?_)
          refine w_ldA h rs i.toNat 1 _ hx2 rfl (by decide) rfl ?_
          refine w_ldA h rs i.toNat 0 _ hx2 rfl (by decide) rfl ?_
          refine hgo w _ _ _ hset ?_ (by rw [hpass, hab]) h
          rw [hpass]
          exact add_sub lost p.2.1 p.1
        · have c3 : (!pLo p && decide (above ≥ 3)) = false := c3
          rw [hh, c3] at hpass
          simp only [Bool.false_eq_true, if_false] at hpass
          exact hgo w _ _ ys (by rw [hpass, hys, ht]; simp) (by rw [hpass]) (by rw [hpass, hab]) h
    · have c : i = -1 := by simp at c; omega
      rw [c] at h2 h3 h
      simp only [show ((-1 : Int) + 1).toNat = 0 from rfl, List.drop_zero, List.take_zero, List.nil_append] at h2 h
      refine w_deref (w_set h rfl fun w h => ?_)
      dsimp only [upd, over] at h
      have h := h.mkBrd b rs (passF L).1 v.2
      show Own _ _ _ _ (ackPost b v upto xs _)
      rw [ackPost, hm, hL]
      exact Own.retP ⟨h2, rfl⟩ h.fin
end RefBoard

end Go.X
