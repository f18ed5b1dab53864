/- Contracts and plain facts: SockW. -/
import Derived.Test.YtkideobegadadaaGreatBArith
import Derived.Test.YtkideobegadadaaGreatBWf
import Derived.Test.YtkideobegadadaaGreatBDelays
import Derived.Test.YtkideobegadadaaGreatBTarget
import Derived.Test.YtkideobegadadaaGreatBBbrMm
import Derived.Test.YtkideobegadadaaGreatBBbrG
import Derived.Test.YtkideobegadadaaGreatBBbrP
import Derived.Test.YtkideobegadadaaGreatBBbrQ
import Derived.Test.YtkideobegadadaaGreatBBbrN
import Derived.Test.YtkideobegadadaaGreatBBbrU
import Derived.Test.YtkideobegadadaaGreatBSockB
import Derived.Test.YtkideobegadadaaGreatBSockC
import Derived.Test.YtkideobegadadaaGreatBSockE
import Derived.Test.YtkideobegadadaaGreatBSockG
import Derived.Test.YtkideobegadadaaGreatBSockI
import Derived.Test.YtkideobegadadaaGreatBSockK
import Derived.Test.YtkideobegadadaaGreatBSockN
import Derived.Test.YtkideobegadadaaGreatBSockP
import Derived.Test.YtkideobegadadaaGreatBSockV
import Derived.Test.YtkideobegadadaaGreatXw
import Derived.Test.YtkideobegadadaaGreatK
import Derived.Test.YtkideobegadadaaGreatF0
import Derived.Test.YtkideobegadadaaGreatF1
set_option linter.unusedVariables false
set_option linter.unusedSimpArgs false
set_option linter.unusedSectionVars false
namespace Go.X
open Go.Proofs
namespace SockW
open Arith ArithC Delays Board BbrM BbrMm SockA SockB SockM SockC SockD SockE SockF SockG SockH SockI SockJ SockK SockL SockN SockO SockP SockQ SockV
/-! ### Bounds -/
theorem tso_tri (p : Nat) (v : Sk) (hm : OkM v.md) : Tri Tryz.prog N_sock_Sock_Tso [.lf (.ptr (some ⟨p, 0⟩))] [.lf (.int .i64)] (sck p v) (fun r => pur (r = skTso v) (sck p v)) :=
  tri_0 (call_sock_Sock_Tso (some ⟨p, 0⟩)) fun w0 S R h => by
    unfold W_sock_Sock_Tso
    refine w_ite (fun c => (by simp at c)) fun _ => ?_
    obtain ⟨pb, pd, ps, x, h⟩ := (h.le (star_emp _)).sck p
    refine w_drw h fun w h => w_deref (w_deref (w_ld h rfl (w_ld h rfl (w_call (mst_tri x v.md) h fun r w h => ?_))))
    obtain ⟨hr, h⟩ := h.purP; rw [hr]
    refine w_chk h rfl (w_call (SockB.tso_tri (mSt v.md).2.2.1 v.mss hm.rate) h fun r w h => ?_)
    obtain ⟨hr, h⟩ := h.purP; rw [hr]
    exact Own.retP rfl (h.mkSck p pb pd ps x v).fin
theorem st_same (m : Md) : (((mSt m).1 == (mSt m).1) && (((mSt m).2.1 == (mSt m).2.1) && (((mSt m).2.2.1 == (mSt m).2.2.1) && (((mSt m).2.2.2.1 == (mSt m).2.2.2.1) && (((mSt m).2.2.2.2.1 == (mSt m).2.2.2.2.1) && (((mSt m).2.2.2.2.2.1 == (mSt m).2.2.2.2.2.1) && (((mSt m).2.2.2.2.2.2.1 == (mSt m).2.2.2.2.2.2.1) && (((mSt m).2.2.2.2.2.2.2.1 == (mSt m).2.2.2.2.2.2.2.1) && (((mSt m).2.2.2.2.2.2.2.2.1 == (mSt m).2.2.2.2.2.2.2.2.1) && ((mSt m).2.2.2.2.2.2.2.2.2 == (mSt m).2.2.2.2.2.2.2.2.2)))))))))) = true := by simp
abbrev KM : Ks := [.int .i64, .int .i64, .int .u64, .int .u64, .int .u64, .int .u64, .int .u64, .int .u64, .bool, .bool]
theorem bounds_tri (d : Conf.Cf) (o : Sl) (ps : List OpS) (hd : 0 ≤ Conf.cH d ∧ U (Conf.cR d)) (hp : ∀ p ∈ ps, OkO p) : Tri Tryz.prog N_canterlaw25_SockBounds [.agg (Ks.mk Conf.KC d), .lf (.sl o)] [.lf .bool] (opSk o ps) (fun r => pur (r = true) emp) :=
  tri_0 (call_canterlaw25_SockBounds d o) fun w0 S R h => by
    unfold W_canterlaw25_SockBounds
    have h : Own w0 S R w0 (rarr o KO (ps.map Prod.fst) ^ rl (fun p : OpS => rarr (oS p.1) KR p.2) ps) := h
    have hol := (h.rd (s := o)).2
    rw [List.length_map] at hol
    obtain ⟨c, hce⟩ : ∃ c, c = Conf.configF d := ⟨_, rfl⟩
    have hc : Conf.OkC c := by rw [hce]; exact Conf.config_ok hd.1 hd.2
    have hcap : 0 ≤ Conf.cCap c ∧ Conf.cCap c ≤ 1073741824 := ⟨by have := hc.cap; omega, hc.cap.2⟩
    refine w_new h fun n1 w h => w_ldAll (b := n1) (x := d) h rfl (w_call (Conf.config_tri d) h fun r w h => ?_)
    obtain ⟨hr, h⟩ := h.purP; rw [hr, ← hce]
    refine w_setAll h (by rfl) fun w h => w_ldAll (b := n1) (x := c) h rfl (w_call (snew_tri 0 c) h fun r w h => ?_)
    obtain ⟨p, h⟩ := h.exP
    obtain ⟨hr, h⟩ := h.purP; rw [hr]
    have h : Own w0 S R w (sck p (newS 0 (Conf.cMss c) (Conf.cCap c)) ^ blk n1 (Ks.mk Conf.KC c) ^ rarr o KO (ps.map Prod.fst) ^ rl (fun p : OpS => rarr (oS p.1) KR p.2) ps) := h.fin
    refine w_call awake_tri (h.le ((star_emp _).trans (star_comm _ _))) fun r w h => ?_
    obtain ⟨hr, h⟩ := h.purP; rw [hr]
    refine w_ite (fun c => (by cases c)) fun _ => ?_
    have i0 := new_ivB 0 (Conf.cMss c) (Conf.cCap c) hcap
    have h : Own w0 S R w (sck p (newS 0 (Conf.cMss c) (Conf.cCap c)) ^ blk n1 (Ks.mk Conf.KC c) ^ rarr o KO (ps.map Prod.fst) ^ rl (fun p : OpS => rarr (oS p.1) KR p.2) ps) := h.fin
    refine w_loopE (fun (_ : Int × Int) (v : Sk) => sck p v ^ blk n1 (Ks.mk Conf.KC c) ^ rarr o KO (ps.map Prod.fst) ^ rl (fun p : OpS => rarr (oS p.1) KR p.2) ps) (fun (y : Int × Int) v => (0 ≤ y.1 ∧ y.1 ≤ 4611686018427387904) ∧ (0 ≤ y.2 ∧ y.2 ≤ 100) ∧ IvB y.2 v ∧ v.cap = Conf.cCap c) (fun (y : Int × Int) _ => (100 - y.2).toNat) (newS 0 (Conf.cMss c) (Conf.cCap c)) h ⟨by decide, by decide, i0, rfl⟩ ?_
    rintro K (y : Int × Int) v w ⟨hnow, hir, hv, hvc⟩ h k
    obtain ⟨now, i⟩ := y
    dsimp only at hnow hir hv hvc ⊢
    refine w_ite (fun cc => ?_) fun cc => Own.retP rfl h.emp'
    have hci : i < ps.length ∧ i < 100 := by
      have cc : (decide (i < ((o.len : Nat) : Int)) && decide (i < 100)) = true := cc
      rw [Bool.and_eq_true, decide_eq_true_eq, decide_eq_true_eq] at cc
      omega
    have hi : i.toNat < ps.length := by omega
    have hwi : IntKind.i64.wrap (i + 1) = i + 1 := wi (by omega) (by omega)
    obtain ⟨q, hpi⟩ : ∃ q, ps[i.toNat]? = some q := ⟨_, List.getElem?_eq_getElem hi⟩
    have hpm : (ps.map Prod.fst)[i.toNat]? = some q.1 := by rw [List.getElem?_map, hpi]; rfl
    haveI := rd_oS hpi
    have hO := hp q (List.mem_of_getElem? hpi)
    obtain ⟨ht, htu, htl⟩ := later_r hnow (u_sec hO.g)
    refine w_idx (s := o) h hir.1 (by rw [List.length_map]; exact hi) (w_ldE h o i.toNat hpm rfl ?_)
    refine w_new h fun n11 w h => w_setAll h (by rfl) fun w h => w_ld (x := oG q.1) h rfl (w_call (radd_tri now _ (u_now hnow) (u_sec hO.g)) h fun r w h => ?_)
    obtain ⟨hr, h⟩ := h.purP; rw [hr]
    have et : (if (4611686018427387904 : Int) < addI now ((oG q.1).tmod 1000000000) then (4611686018427387904 : Int) else addI now ((oG q.1).tmod 1000000000)) = later now ((oG q.1).tmod 1000000000) := rfl
    rw [et]
    obtain ⟨t, hte⟩ : ∃ t, t = later now ((oG q.1).tmod 1000000000) := ⟨_, rfl⟩
    rw [← hte] at ht htl htu ⊢
    rw [hwi]
    have h : Own w0 S R w (blk n11 (Ks.mk KO q.1) ^ sck p v ^ blk n1 (Ks.mk Conf.KC c) ^ rarr o KO (ps.map Prod.fst) ^ rl (fun p : OpS => rarr (oS p.1) KR p.2) ps) := h.fin
    have hk6 : i < 1000000 := by omega
    have nx : ∀ (v' : Sk) (w : World), IvB (i + 1) v' → v'.cap = v.cap → Own w0 S R w (sck p v' ^ blk n1 (Ks.mk Conf.KC c) ^ rarr o KO (ps.map Prod.fst) ^ rl (fun p : OpS => rarr (oS p.1) KR p.2) ps) → K (t, i + 1) w := fun v' w hv' hc' h =>
      k (t, i + 1) v' w ⟨ht, ⟨by show 0 ≤ i + 1; omega, by show i + 1 ≤ 100; omega⟩, hv', hc'.trans hvc⟩ h (by show (100 - (i + 1)).toNat < (100 - i).toNat; omega)
    have ho0 := hv.i.ok.out
    have ho1 := hv.i.o
    have hfs := fl_small hv.i
    unfold U at ho0
    refine w_ld (x := oK q.1) h rfl (w_join h (fun _ => blk n11 (Ks.mk KO q.1) ^ sck p v ^ blk n1 (Ks.mk Conf.KC c) ^ rarr o KO (ps.map Prod.fst) ^ rl (fun p : OpS => rarr (oS p.1) KR p.2) ps) (fun _ : Bool => True) (fun (y : Bool) w _ h => ?_) ?_)
    rotate_left
    · refine w_ite (fun _ => ⟨trivial, h⟩) fun _ => ⟨trivial, h⟩
    refine w_ite (fun _ => ?_) fun _ => ?_
    · refine w_call (model_tri p v) h fun r w h => ?_
      obtain ⟨hr, h⟩ := h.purP; rw [hr]
      refine w_call (out_tri p v) h fun r w h => ?_
      obtain ⟨hr, h⟩ := h.purP; rw [hr]
      refine w_call (SockC.flight_tri p v hv.i.bl) h fun r w h => ?_
      obtain ⟨hr, h⟩ := h.purP; rw [hr]
      refine w_call (tso_tri p v hv.i.ok.md) h fun r w h => ?_
      obtain ⟨hr, h⟩ := h.purP; rw [hr]
      refine w_call (unsent_tri p v hv.i.ok.bf) h fun r w h => ?_
      obtain ⟨hr, h⟩ := h.purP; rw [hr]
      have hts := tso_r v.md.rate v.mss hv.i.ok.md.rate.1
      refine w_new h fun n22 w h => w_setAll h (by rfl) fun w h => w_ld (x := v.md.rate) h rfl (w_ld (x := Conf.cCap c) h rfl ?_)
      rw [← hvc]
      refine w_call (rlimit_tri v.md.rate (skTso v) v.cap hv.i.ok.md.rate ⟨by unfold skTso; omega, by unfold skTso; omega⟩ hv.i.ok.cap) h fun r w h => ?_
      obtain ⟨hr, h⟩ := h.purP; rw [hr]
      refine w_call (emit_tri p v hv.i.ok (pcs_lost hv.i.pc) t htu) h fun r w h => ?_
      obtain ⟨hr, h⟩ := h.purP; rw [hr]
      have hv' := hv.emit hk6 htu
      obtain ⟨v', hve⟩ : ∃ v', v' = (emitS v t).2 := ⟨_, rfl⟩
      rw [← hve] at hv' h
      refine w_new h fun n27 w h => w_setAll h (by rfl) fun w h => ?_
      refine w_ite (fun ce => ?_) fun ce => ?_
      · have ce : (emitS v t).1.2 ≠ 0 := by simpa using ce
        obtain ⟨e1, e2, _⟩ := emit_no ce
        rw [← hve] at e2
        have efl : skFl v' = skFl v := by unfold skFl; rw [e2.bd]
        rw [e1] at h
        have h : Own w0 S R w (blk n27 (Ks.mk KS noS) ^ blk n22 (Ks.mk KM (mSt v.md)) ^ sck p v' ^ blk n1 (Ks.mk Conf.KC c) ^ rarr o KO (ps.map Prod.fst) ^ rl (fun p : OpS => rarr (oS p.1) KR p.2) ps) := h.fin
        refine w_join h (fun _ => sck p v' ^ blk n1 (Ks.mk Conf.KC c) ^ rarr o KO (ps.map Prod.fst) ^ rl (fun p : OpS => rarr (oS p.1) KR p.2) ps) (fun b : Bool => b = false) (fun (b : Bool) w hb h => ?_) ?_
        · rw [hb]
          refine w_ite (fun c => (by cases c)) fun _ => ?_
          exact nx v' w hv' e2.cap h
        · refine w_drw h fun w h => w_call (out_tri p v') h fun r w h => ?_
          obtain ⟨hr, h⟩ := h.purP; rw [hr, e2.out]
          refine w_ite (fun c => (by simp at c)) fun _ => ?_
          refine w_call (SockC.flight_tri p v' hv'.i.bl) h fun r w h => ?_
          obtain ⟨hr, h⟩ := h.purP; rw [hr, efl]
          refine w_ite (fun c => (by simp at c)) fun _ => ?_
          refine w_call (unsent_tri p v' hv'.i.ok.bf) h fun r w h => ?_
          obtain ⟨hr, h⟩ := h.purP; rw [hr, e2.bf]
          refine w_ite (fun c => (by simp at c)) fun _ => ?_
          refine w_ldAll (b := n22) (x := mSt v.md) h rfl (w_call (model_tri p v') h fun r w h => ?_)
          obtain ⟨hr, h⟩ := h.purP; rw [hr, e2.md]
          refine w_chkAll (b := n22) h (w_ite (fun c => ?_) fun _ => ?_)
          · have c := c
            rw [st_same] at c; cases c
          · refine w_ldAll (b := n27) (x := noS) h rfl ?_
            exact ⟨rfl, h.fin⟩
      · have ce : (emitS v t).1.2 = 0 := by simpa using ce
        have hw := emit_went hv.i htu ce
        obtain ⟨g, hg⟩ : ∃ g, g = (emitS v t).1.1 := ⟨_, rfl⟩
        rw [← hg, ← hve] at hw
        rw [← hg] at h
        have hn := hw.n
        have hwin := hw.win
        have hlim := hw.lim
        have hbl := below_le v.md.rate (skTso v) v.cap hts.2 hv.i.ok.cap.2
        have hbw := hv.b.win
        have efl := hw.fl
        have eo := hw.out
        have h : Own w0 S R w (blk n27 (Ks.mk KS g) ^ blk n22 (Ks.mk KM (mSt v.md)) ^ sck p v' ^ blk n1 (Ks.mk Conf.KC c) ^ rarr o KO (ps.map Prod.fst) ^ rl (fun p : OpS => rarr (oS p.1) KR p.2) ps) := h.fin
        have ewn : IntKind.u64.wrap (gN g) = gN g := wu (by omega) (by omega)
        refine w_ld (x := gN g) h rfl (w_join h (fun _ => sck p v' ^ blk n1 (Ks.mk Conf.KC c) ^ rarr o KO (ps.map Prod.fst) ^ rl (fun p : OpS => rarr (oS p.1) KR p.2) ps) (fun b : Bool => b = false) (fun (b : Bool) w hb h => ?_) ?_)
        · rw [hb]
          refine w_ite (fun c => (by cases c)) fun _ => ?_
          exact nx v' w hv' hw.cap h
        · rw [ewn, wu (n := skFl v + gN g) (by omega) (by omega), wu (n := v.out + gN g) (by omega) (by omega)]
          refine w_drw h fun w h => w_ld (x := gN g) h rfl (w_ite (fun c => (by have := of_decide_eq_true c; omega)) fun _ => ?_)
          refine w_ld (x := gN g) h rfl (w_ite (fun c => (by have := of_decide_eq_true c; omega)) fun _ => ?_)
          refine w_call (SockC.flight_tri p v' hv'.i.bl) h fun r w h => ?_
          obtain ⟨hr, h⟩ := h.purP; rw [hr, efl]
          refine w_ite (fun c => (by simp at c)) fun _ => ?_
          refine w_call (out_tri p v') h fun r w h => ?_
          obtain ⟨hr, h⟩ := h.purP; rw [hr, eo]
          refine w_ite (fun c => (by simp at c)) fun _ => ?_
          refine w_ld (x := v.md.win) h rfl (w_ite (fun c => (by have := of_decide_eq_true c; omega)) fun _ => ?_)
          refine w_ite (fun c => (by have := of_decide_eq_true c; omega)) fun _ => ?_
          refine w_ld (x := v.md.win) h rfl (w_call (SockC.flight_tri p v' hv'.i.bl) h fun r w h => ?_)
          obtain ⟨hr, h⟩ := h.purP; rw [hr, efl]
          rw [wu (n := v.md.win + gN g) (by omega) (by omega)]
          refine w_chk h rfl (w_ite (fun c => (by have := of_decide_eq_true c; omega)) fun _ => ?_)
          refine w_call (out_tri p v') h fun r w h => ?_
          obtain ⟨hr, h⟩ := h.purP; rw [hr, eo]
          rw [wu (n := belowF v.md.rate (skTso v) v.cap + gN g) (by omega) (by omega)]
          refine w_ite (fun c => (by have := of_decide_eq_true c; omega)) fun _ => ?_
          refine w_ld (x := gS g) h rfl ?_
          refine ⟨decide_eq_false ?_, h.fin⟩
          rw [hw.st]; split <;> omega
    · refine w_ite (fun _ => ?_) fun _ => ?_
      · refine w_ld (x := oS q.1) h rfl (w_ite (fun c => ?_) fun _ => nx v w (hv.le1 hk6) rfl h.fin)
        have hlen := (h.rd (s := oS q.1)).2
        have c : ((oS q.1).len : Int) ≤ 8 := of_decide_eq_true c
        refine w_ld (x := oU q.1) h rfl (w_ld (x := oS q.1) h rfl ?_)
        refine w_callL (A := sck p v) (Q := rarr (oS q.1) KR q.2) (sack_tri p v hv.i.ok hv.i.ps t (oU q.1) htu (oS q.1) q.2 (by omega)) h fun r w h => ?_
        obtain ⟨_, h⟩ := h.purP
        exact nx _ w (hv.ack hk6 htu (oU q.1) q.2) (by unfold ackS; split <;> rfl) h.fin
      · refine w_ite (fun _ => ?_) fun _ => ?_
        · refine w_call (slose_tri p v hv.i.ok t htu) h fun r w h => ?_
          obtain ⟨_, h⟩ := h.purP
          exact nx _ w (hv.lose hk6 htu) rfl h.fin
        · refine w_ite (fun _ => ?_) fun _ => ?_
          · refine w_ld (x := oN q.1) h rfl (w_call (SockC.done_tri p v hv.i.ok.out (oN q.1) hO.n) h fun r w h => ?_)
            obtain ⟨_, h⟩ := h.purP
            exact nx _ w (hv.done hk6 (oN q.1)) (by unfold doneS; split <;> rfl) h.fin
          · have hm := modr (oN q.1) (m := 100000) (by decide) (by decide)
            obtain ⟨m, hmm⟩ : ∃ m, m = 1 + IntKind.i64.wrap ((IntKind.u64.wrap (oN q.1)).tmod 100000) := ⟨_, rfl⟩
            refine w_ld (x := oN q.1) h rfl ?_
            rw [← hmm, wi (n := m) (by omega) (by omega)]
            refine w_call (write_tri p v hv.i.ok.bf m (by omega)) h fun r w h => ?_
            obtain ⟨_, h⟩ := h.purP
            exact nx _ w (hv.write hk6 m) rfl h.fin
end SockW


end Go.X
