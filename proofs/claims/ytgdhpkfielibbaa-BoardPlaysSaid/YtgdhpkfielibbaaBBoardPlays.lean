/- Contracts and plain facts: BoardPlays. -/
import Derived.Test.YtgdhpkfielibbaaBPlain
import Derived.Test.YtgdhpkfielibbaaBBoard
import Derived.Test.YtgdhpkfielibbaaBBoardLaws
import Derived.Test.YtgdhpkfielibbaaBRefBoard
import Derived.Test.YtgdhpkfielibbaaBRanges
import Derived.Test.YtgdhpkfielibbaaXw
import Derived.Test.YtgdhpkfielibbaaK
import Derived.Test.YtgdhpkfielibbaaF0
set_option linter.unusedVariables false
set_option linter.unusedSimpArgs false
namespace Go.X
open Go.Proofs
namespace BoardPlays
open Board BoardLaws RefBoard
/-- What an op does, on whatever it is. -/
def playF (v : List Pc × Int) (o : Opn) (ys : List (Int × Int)) : List Pc × Int :=
  if oK o = 1 then (if mayF v (oU o) ys = true then ((passF (restL (oU o) ys v.1)).1, v.2) else v)
  else if oK o = 2 then (v.1.map loseP, v.2)
  else if oK o = 3 then (againF v.1 (oT o), v.2)
  else if oR o then (sentF v (oA o) (oU o) (oT o)).2 else (sentF v v.2 (IntKind.u64.wrap (IntKind.u64.wrap (v.2 + 1) + (IntKind.u64.wrap (oN o)).tmod 5000)) (oT o)).2
theorem sent_len (v : List Pc × Int) (f t : Int) (s : Snt) : (sentF v f t s).2.1.length ≤ v.1.length + 1 := by
  unfold sentF; split
  · simp
  · split <;> simp
theorem play_len (v : List Pc × Int) (o : Opn) (ys : List (Int × Int)) : (playF v o ys).1.length ≤ v.1.length + 1 := by
  unfold playF
  split
  · split
    · have := restL_len (oU o) ys v.1 v.1.length
      rw [List.take_length] at this
      show (passF _).1.length ≤ _
      rw [pass_len]; omega
    · omega
  · split
    · show (v.1.map loseP).length ≤ _; simp
    · split
      · have := AllP_len (again_like v.1 (oT o)); show (againF _ _).length ≤ _; omega
      · split
        · exact sent_len _ _ _ _
        · exact sent_len _ _ _ _
theorem play_tri (b c : Nat) (v : List Pc × Int) (o : Opn) (ys : List (Int × Int)) (hl : v.1.length ≤ 1000000) (hy : ys.length ≤ 1000000) :
    Tri Try.prog N_canterlaw24_play [.lf (.ptr (some ⟨b, 0⟩)), .lf (.ptr (some ⟨c, 0⟩)), .agg (Ks.mk KO o)] [.lf .bool] ((brd b v ^ brd c v) ^ rarr (oS o) KR ys) (fun r => pur (r = true) (brd b (playF v o ys) ^ brd c (playF v o ys))) :=
  tri_0 (call_canterlaw24_play _ _ _) fun w0 S R h => by
    unfold W_canterlaw24_play
    refine w_new h fun n1 w h => ?_
    have h : Own w0 S R w (blk n1 (Ks.mk KO o) ^ brd b v ^ brd c v ^ rarr (oS o) KR ys) := h.fin
    refine w_ld h rfl ?_
    refine w_ite (fun c1 => ?_) fun c1 => ?_
    · have k1 : oK o = 1 := by simpa using c1
      refine w_ld h rfl (w_ld h rfl ?_)
      by_cases hm : mayF v (oU o) ys = true
      · refine w_callL (A := brd b v) (Q := rarr (oS o) KR ys) (ack_tri b v (oU o) (oS o) ys (by omega) (by omega) hm) h fun r5 w h => ?_
        obtain ⟨hr5, h⟩ := h.purP
        refine w_ld h rfl (w_ld h rfl ?_)
        have tr := r_ack_tri c v (oU o) (oS o) ys (by omega) (by omega)
        have tr : Tri Try.prog N_canterref20_Board_Ack [.lf (.ptr (some ⟨c, 0⟩)), .lf (.int .u64 (oU o)), .lf (.sl (oS o))] [.lf .sl, .lf (.int .u64), .lf (.int .i64)] (brd c v ^ rarr (oS o) KR ys)
            (fun r => pur (r.2.1 = (passF (restL (oU o) ys v.1)).2.1 ∧ r.2.2 = 0) (arr r.1 K_u6b3 (toldL (oU o) ys v.1) ^ brd c ((passF (restL (oU o) ys v.1)).1, v.2))) :=
          tr.le Le.rfl fun x => by unfold ackPost; rw [hm]; exact Le.rfl
        refine w_callL (A := brd c v) (Q := rarr (oS o) KR ys) tr h fun r8 w h => ?_
        obtain ⟨hr8, h⟩ := h.purP
        have htl : (toldL (oU o) ys v.1).length ≤ 1000000 := Nat.le_trans (List.length_filter_le _ _) hl
        refine w_callL (A := emp) (Q := rarr r5.1 K_u6b3 (toldL (oU o) ys v.1) ^ rarr r8.1 K_u6b3 (toldL (oU o) ys v.1)) (pc_plain_tri r5.1 r8.1 (toldL (oU o) ys v.1) (by omega)) (h.le (star_emp _ |>.trans (star_comm _ _))) fun r9 w h => ?_
        obtain ⟨hr9, h⟩ := h.purP
        have e : playF v o ys = ((passF (restL (oU o) ys v.1)).1, v.2) := by rw [playF, if_pos k1, if_pos hm]
        rw [e]
        exact Own.retP (by rw [hr9, hr5.1, hr8.1, hr5.2, hr8.2]; simp) h.fin
      · refine w_callL (A := brd b v) (Q := rarr (oS o) KR ys) (ack_no2_tri b v (oU o) (oS o) ys (by omega) (by simpa using hm)) h fun r5 w h => ?_
        obtain ⟨hr5, h⟩ := h.purP
        refine w_ld h rfl (w_ld h rfl ?_)
        have tr := r_ack_tri c v (oU o) (oS o) ys (by omega) (by omega)
        have tr : Tri Try.prog N_canterref20_Board_Ack [.lf (.ptr (some ⟨c, 0⟩)), .lf (.int .u64 (oU o)), .lf (.sl (oS o))] [.lf .sl, .lf (.int .u64), .lf (.int .i64)] (brd c v ^ rarr (oS o) KR ys)
            (fun r => pur (r.1 = ⟨none, 0, 0⟩ ∧ r.2.1 = 0 ∧ r.2.2 = 11) (arr r.1 K_u6b3 [] ^ brd c v)) :=
          tr.le Le.rfl fun x => by unfold ackPost; rw [show mayF v (oU o) ys = false by simpa using hm]; exact Le.rfl
        refine w_callL (A := brd c v) (Q := rarr (oS o) KR ys) tr h fun r8 w h => ?_
        obtain ⟨hr8, h⟩ := h.purP
        have h := (h.nil K_u6b3)
        rw [hr5.1]
        refine w_callL (A := emp) (Q := rarr ⟨none, 0, 0⟩ K_u6b3 [] ^ rarr r8.1 K_u6b3 []) (pc_plain_tri ⟨none, 0, 0⟩ r8.1 [] (by simp)) (h.le (star_emp _ |>.trans (star_comm _ _))) fun r9 w h => ?_
        obtain ⟨hr9, h⟩ := h.purP
        have e : playF v o ys = v := by rw [playF, if_pos k1, if_neg hm]
        rw [e]
        exact Own.retP (by rw [hr9, hr5.2.1, hr8.2.1, hr5.2.2, hr8.2.2]; simp) h.fin
    have k1 : ¬ oK o = 1 := by simpa using c1
    refine w_ite (fun c2 => ?_) fun c2 => ?_
    · have k2 : oK o = 2 := by simpa using c2
      refine w_call (lose_tri b v (by omega)) h fun r10 w h => ?_
      obtain ⟨hr10, h⟩ := h.purP
      refine w_call (r_lose_tri c v (by omega)) h fun r11 w h => ?_
      obtain ⟨hr11, h⟩ := h.purP
      have e : playF v o ys = (v.1.map loseP, v.2) := by rw [playF, if_neg k1, if_pos k2]
      rw [e]
      exact Own.retP (by rw [hr10, hr11]; simp) h.fin
    have k2 : ¬ oK o = 2 := by simpa using c2
    refine w_ite (fun c3 => ?_) fun c3 => ?_
    · have k3 : oK o = 3 := by simpa using c3
      refine w_ld h rfl ?_
      refine w_call (Again_tri b (oT o) v (by omega)) h fun r13 w h => ?_
      obtain ⟨hr13, h⟩ := h.purP
      refine w_new h fun n14 w h => ?_
      refine w_setAll h (by rfl) fun w h => ?_
      refine w_ld h rfl ?_
      refine w_call (r_Again_tri c (oT o) v (by omega)) h fun r16 w h => ?_
      obtain ⟨hr16, h⟩ := h.purP
      refine w_new h fun n17 w h => ?_
      refine w_setAll h (by rfl) fun w h => ?_
      refine w_ldAll h rfl (w_ldAll h rfl ?_)
      have e : playF v o ys = (againF v.1 (oT o), v.2) := by rw [playF, if_neg k1, if_neg k2, if_pos k3]
      rw [e]
      exact Own.retP (by rw [hr13, hr16]; simp) h.fin
    have k3 : ¬ oK o = 3 := by simpa using c3
    refine w_drw h fun w h => ?_
    obtain ⟨s, h⟩ := h.brd c
    refine w_deref (w_deref (w_ld h rfl (w_ld h rfl (w_ld h rfl ?_))))
    refine w_chk h rfl (w_chk h rfl ?_)
    have h := h.mkBrd c s v.1 v.2
    have h : Own w0 S R w (blk n1 (Ks.mk KO o) ^ brd b v ^ brd c v) := h.fin
    refine w_join h (fun _ => blk n1 (Ks.mk KO o) ^ brd b v ^ brd c v) (fun (y : Int × Int) => y = if oR o then (oA o, oU o) else (v.2, IntKind.u64.wrap (IntKind.u64.wrap (v.2 + 1) + (IntKind.u64.wrap (oN o)).tmod 5000))) (fun (y : Int × Int) w hy h => ?_) ?_
    · refine w_drw h fun w h => ?_
      refine w_ld h rfl (w_ld h rfl ?_)
      refine w_call (sent_tri b y.1 y.2 (oT o) v) h fun r32 w h => ?_
      obtain ⟨hr32, h⟩ := h.purP
      refine w_chk h rfl ?_
      refine w_call (r_sent_tri c y.1 y.2 (oT o) v) h fun r33 w h => ?_
      obtain ⟨hr33, h⟩ := h.purP
      have e : playF v o ys = (sentF v y.1 y.2 (oT o)).2 := by
        rw [playF, if_neg k1, if_neg k2, if_neg k3, hy]; split <;> rfl
      rw [e]
      exact Own.retP (by rw [hr32, hr33]; simp) h.fin
    · refine w_ld h rfl ?_
      refine w_ite (fun c => ?_) fun c => ?_
      · refine w_drw h fun w h => ?_
        refine w_ld h rfl (w_ld h rfl (w_chk h rfl ?_))
        exact ⟨by have c : oR o = true := c; rw [c]; rfl, h⟩
      · exact ⟨by have c : oR o = false := c; rw [c]; rfl, h⟩
def setS (o : Opn) (s : Sl) : Opn := (o.1, o.2.1, o.2.2.1, o.2.2.2.1, s, o.2.2.2.2.2)
theorem plays_tri (d : Sl) (ps : List OpR) : Tri Try.prog N_canterlaw24_BoardPlays [.lf (.sl d)] [.lf .bool] (opsP d ps) (fun r => pur (r = true) emp) :=
  tri_0 (call_canterlaw24_BoardPlays _) fun w0 S R h => by
    unfold W_canterlaw24_BoardPlays
    have h : Own w0 S R w0 (rarr d KO (ps.map Prod.fst) ^ rl (fun p : OpR => rarr (oS p.1) KR p.2) ps) := h
    have hd := (h.rd (s := d)).2
    rw [List.length_map] at hd
    refine w_call new_tri (h.le (star_emp _ |>.trans (star_comm _ _))) fun r1 w h => ?_
    obtain ⟨b, h⟩ := h.exP
    obtain ⟨hr1, h⟩ := h.purP
    rw [hr1]
    refine w_new h fun n2 w h => ?_
    have h := (h.nil K_u6b3).mkBrd n2 ⟨none, 0, 0⟩ [] 0
    refine w_call awake_tri (h.le (star_emp _ |>.trans (star_comm _ _))) fun r3 w h => ?_
    obtain ⟨hr3, h⟩ := h.purP
    rw [hr3]
    refine w_ite (fun c => by cases c) fun _ => ?_
    have h : Own w0 S R w (rarr d KO (ps.map Prod.fst) ^ brd b ([], 0) ^ brd n2 ([], 0) ^ rl (fun p : OpR => rarr (oS p.1) KR p.2) ps) := h.fin
    refine w_loop (fun (i : Int) => exq (fun v : List Pc × Int => v.1.length ≤ i.toNat) (fun v => rarr d KO (ps.map Prod.fst) ^ brd b v ^ brd n2 v ^ rl (fun p : OpR => rarr (oS p.1) KR p.2) ps)) (fun (i : Int) => 0 ≤ i ∧ i ≤ 80) (fun (i : Int) => (80 - i).toNat) (h.inq ([], 0) (by simp)).keep ⟨by simp, by simp⟩ ?_
    rintro (i : Int) w ⟨h0, h1⟩ h
    obtain ⟨v, hv, h⟩ := h.outq1
    refine w_ite (fun c => ?_) fun c => Own.retP rfl h.emp'
    have hc : i < ps.length ∧ i < 80 := by simp at c; omega
    have hi : i.toNat < ps.length := by omega
    obtain ⟨⟨o, ys⟩, ho⟩ : ∃ o, ps[i.toNat]? = some o := ⟨_, at_some hi⟩
    have hom : (ps.map Prod.fst)[i.toNat]? = some o := by rw [List.getElem?_map, ho]; rfl
    haveI : Rd (oS o) (rl (fun p : OpR => rarr (oS p.1) KR p.2) ps) KR ys := rd_ops ho
    have hsl : o.2.2.2.2.1.len = ys.length := (h.rd (s := oS o)).2
    have hil : i.toNat < (ps.map Prod.fst).length := by rw [List.length_map]; exact hi
    refine w_idx h h0 hil ?_
    refine w_ldA h d i.toNat 4 o hom rfl (by simp) rfl ?_
    refine w_ite (fun c => Own.retP rfl h.emp') fun c => ?_
    have hys : ys.length ≤ 8 := by simp at c; omega
    refine w_idx h h0 hil ?_
    refine w_ldE h d i.toNat hom rfl ?_
    refine w_new h fun n10 w h => ?_
    refine w_setAll h (by rfl) fun w h => ?_
    have h' := h.take (rarr d KO (ps.map Prod.fst))
    refine w_idx h' h0 hil ?_
    refine w_ldA h' d i.toNat 4 o hom rfl (by simp) rfl ?_
    refine w_callL (A := emp) (Q := rarr (oS o) KR ys) (Ranges.rg_own_tri (oS o) ys (71, 0) (by omega)) (h.le (star_emp _ |>.trans (star_comm _ _))) fun r13 w h => ?_
    refine w_set h rfl fun w h => ?_
    have h : Own w0 S R w (blk n10 (Ks.mk KO (setS o r13)) ^ _) := h
    refine w_call (Lost_tri b v (by omega)) h fun r14 w h => ?_
    obtain ⟨hr14, h⟩ := h.purP
    refine w_new h fun n15 w h => ?_
    refine w_setAll h (by rfl) fun w h => ?_
    refine w_call (r_Lost_tri n2 v (by omega)) h fun r16 w h => ?_
    obtain ⟨hr16, h⟩ := h.purP
    refine w_new h fun n17 w h => ?_
    refine w_setAll h (by rfl) fun w h => ?_
    rw [hr14, hr16]
    rw [hr14, hr16] at h
    have hpl := play_len v (setS o r13) ys
    refine w_join h (fun _ => rarr d KO (ps.map Prod.fst) ^ brd b (playF v (setS o r13) ys) ^ brd n2 (playF v (setS o r13) ys) ^ rl (fun p : OpR => rarr (oS p.1) KR p.2) ps) (fun (y : Bool) => y = false) (fun (y : Bool) w hy h => ?_) ?_
    · refine w_ite (fun c => by rw [hy] at c; cases c) fun _ => ?_
      generalize playF v (setS o r13) ys = v at h hpl
      refine w_join h (fun _ => rarr d KO (ps.map Prod.fst) ^ brd b v ^ brd n2 v ^ rl (fun p : OpR => rarr (oS p.1) KR p.2) ps) (fun (y : Bool) => y = false) (fun (y : Bool) w hy h => ?_) ?_
      · refine w_ite (fun c => by rw [hy] at c; cases c) fun _ => ?_
        rw [wi (n := i + 1) (by omega) (by omega)]
        exact ⟨⟨⟨by show 0 ≤ i + 1; omega, by show i + 1 ≤ 80; omega⟩, ((h.le (star_emp _)).keep.inq v (by show v.1.length ≤ (i + 1).toNat; omega)).keep⟩, by show (80 - (i + 1)).toNat < _; omega⟩
      · refine w_drw h fun w h => ?_
        refine w_call (flight_tri b v (by omega)) h fun r30 w h => ?_
        obtain ⟨hr30, h⟩ := h.purP
        refine w_call (r_flight_tri n2 v (by omega)) h fun r31 w h => ?_
        obtain ⟨hr31, h⟩ := h.purP
        refine w_ite (fun c => by rw [hr30, hr31] at c; simp at c) fun _ => ?_
        obtain ⟨s, h⟩ := h.brd n2
        refine w_deref (w_ld h rfl ?_)
        refine w_call (end_tri b v) h fun r34 w h => ?_
        obtain ⟨hr34, h⟩ := h.purP
        refine w_chk h rfl ?_
        refine w_ite (fun c => by rw [hr34] at c; simp at c) fun _ => ?_
        refine w_deref (w_ld h rfl ?_)
        refine w_call (all_tri b) (h.le (star_emp _ |>.trans (star_comm _ _))) fun r37 w h => ?_
        obtain ⟨n, h⟩ := h.exP
        obtain ⟨hr37, h⟩ := h.purP
        rw [hr37]
        refine w_chk h rfl ?_
        refine w_call (hall_tri (mkAll n) (blk n [.ptr (some ⟨b, 0⟩)] ^ brd b v) v.1 200 (all_iter n b v (by omega)) rfl (by omega)) h fun r38 w h => ?_
        have htk : takeN v.1 200 = v.1 := by rw [takeN, List.take_of_length_le]; omega
        rw [htk] at h
        refine w_chk h rfl ?_
        refine w_callL (A := emp) (Q := rarr r38 K_u6b3 v.1 ^ rarr s K_u6b3 v.1) (pc_plain_tri r38 s v.1 (by omega)) (h.le (star_emp _ |>.trans (star_comm _ _))) fun r39 w h => ?_
        obtain ⟨hr39, h⟩ := h.purP
        exact ⟨by rw [hr39]; rfl, (h.mkBrd n2 s v.1 v.2).fin⟩
    · refine w_drw h fun w h => ?_
      refine w_ldAll h rfl ?_
      refine w_callL (A := brd b v ^ brd n2 v) (Q := rarr r13 KR ys) (play_tri b n2 v (setS o r13) ys (by omega) (by omega)) h fun r21 w h => ?_
      obtain ⟨hr21, h⟩ := h.purP
      refine w_ite (fun c => by rw [hr21] at c; cases c) fun _ => ?_
      refine w_ld h rfl ?_
      have h' := h.take (rarr d KO (ps.map Prod.fst))
      refine w_idx h' h0 hil ?_
      refine w_ldA h' d i.toNat 4 o hom rfl (by simp) rfl ?_
      refine w_callL (A := kept r13 KR ys (71, 0)) (Q := rarr (oS o) KR ys) (Ranges.rg_kept_tri r13 (oS o) ys (71, 0) (by omega)) h fun r25 w h => ?_
      obtain ⟨hr25, h⟩ := h.purP
      refine w_ite (fun c => by rw [hr25] at c; cases c) fun _ => ?_
      refine w_ldAll h rfl (w_ldAll h rfl ?_)
      refine w_ite (fun c => by simp at c) fun _ => ?_
      exact ⟨by simp, h.fin⟩
end BoardPlays

end Go.X
