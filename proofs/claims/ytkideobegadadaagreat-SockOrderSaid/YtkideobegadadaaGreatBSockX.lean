/- Contracts and plain facts: SockW SockX. -/
import Derived.Test.YtkideobegadadaaGreatBArith
import Derived.Test.YtkideobegadadaaGreatBWf
import Derived.Test.YtkideobegadadaaGreatBDelays
import Derived.Test.YtkideobegadadaaGreatBTarget
import Derived.Test.YtkideobegadadaaGreatBBbrMm
import Derived.Test.YtkideobegadadaaGreatBBbrG
import Derived.Test.YtkideobegadadaaGreatBBbrP
import Derived.Test.YtkideobegadadaaGreatBBbrQ
import Derived.Test.YtkideobegadadaaGreatBBbrN
import Derived.Test.YtkideobegadadaaGreatBBbrU
import Derived.Test.YtkideobegadadaaGreatBSockB
import Derived.Test.YtkideobegadadaaGreatBSockC
import Derived.Test.YtkideobegadadaaGreatBSockE
import Derived.Test.YtkideobegadadaaGreatBSockG
import Derived.Test.YtkideobegadadaaGreatBSockI
import Derived.Test.YtkideobegadadaaGreatBSockK
import Derived.Test.YtkideobegadadaaGreatBSockN
import Derived.Test.YtkideobegadadaaGreatBSockP
import Derived.Test.YtkideobegadadaaGreatBSockV
import Derived.Test.YtkideobegadadaaGreatXw
import Derived.Test.YtkideobegadadaaGreatK
import Derived.Test.YtkideobegadadaaGreatF0
import Derived.Test.YtkideobegadadaaGreatF1
set_option linter.unusedVariables false
set_option linter.unusedSimpArgs false
set_option linter.unusedSectionVars false
namespace Go.X
open Go.Proofs
namespace SockW
open Arith ArithC Delays Board BbrM BbrMm SockA SockB SockM SockC SockD SockE SockF SockG SockH SockI SockJ SockK SockL SockN SockO SockP SockQ SockV
/-! ### Bounds -/
theorem tso_tri (p : Nat) (v : Sk) (hm : OkM v.md) : Tri Tryz.prog N_sock_Sock_Tso [.lf (.ptr (some ⟨p, 0⟩))] [.lf (.int .i64)] (sck p v) (fun r => pur (r = skTso v) (sck p v)) :=
  tri_0 (call_sock_Sock_Tso (some ⟨p, 0⟩)) fun w0 S R h => by
    unfold W_sock_Sock_Tso
    refine w_ite (fun c => (by simp at c)) fun _ => ?_
    obtain ⟨pb, pd, ps, x, h⟩ := (h.le (star_emp _)).sck p
    refine w_drw h fun w h => w_deref (w_deref (w_ld h rfl (w_ld h rfl (w_call (mst_tri x v.md) h fun r w h => ?_))))
    obtain ⟨hr, h⟩ := h.purP; rw [hr]
    refine w_chk h rfl (w_call (SockB.tso_tri (mSt v.md).2.2.1 v.mss hm.rate) h fun r w h => ?_)
    obtain ⟨hr, h⟩ := h.purP; rw [hr]
    exact Own.retP rfl (h.mkSck p pb pd ps x v).fin
end SockW

namespace SockX
open Arith ArithC Delays Board BbrM BbrMm SockA SockB SockM SockC SockD SockE SockF SockG SockH SockI SockJ SockK SockL SockN SockO SockP SockQ SockV SockW
/-! ### Order: where pieces stand -/
abbrev rgP (q : Pc) : Ks.T KR := (q.1, q.2.1)
def In (l : List Pc) (had : List (Ks.T KR)) : Prop := ∀ q ∈ l, rgP q ∈ had
theorem In.lose {l : List Pc} {a : List (Ks.T KR)} (h : In l a) : In (l.map loseP) a := fun q hq => by
  obtain ⟨p, hp, rfl⟩ := List.mem_map.1 hq
  have : rgP (loseP p) = rgP p := by unfold loseP; split <;> rfl
  rw [this]; exact h p hp
theorem In.again {l : List Pc} {a : List (Ks.T KR)} (h : In l a) (s : Snt) : In (againF l s) a := fun q hq => by
  unfold againF at hq
  split at hq
  · rename_i p hp
    split at hq
    · exact h q hq
    · rcases List.mem_or_eq_of_mem_set hq with hq | rfl
      · exact h q hq
      · exact h p (List.mem_of_getElem? hp)
  · exact h q hq
theorem In.pass : ∀ {l : List Pc} {a : List (Ks.T KR)}, In l a → In (passF l).1 a
  | [], _, _ => fun q hq => by cases hq
  | p :: l, a, h => fun q hq => by
    have h1 := h p (List.mem_cons_self ..)
    have h2 := In.pass (l := l) (a := a) fun q hq => h q (List.mem_cons_of_mem _ hq)
    simp only [passF] at hq
    split at hq
    · rcases List.mem_cons.1 hq with rfl | hq
      · exact h1
      · exact h2 q hq
    · rcases List.mem_cons.1 hq with rfl | hq
      · exact h1
      · exact h2 q hq
theorem In.rest {l : List Pc} {a : List (Ks.T KR)} (h : In l a) (upto : Int) (xs : List (Int × Int)) : In (restL upto xs l) a := fun q hq => by
  obtain ⟨p, hp, rfl⟩ := List.mem_map.1 hq
  have : rgP (markP upto xs p) = rgP p := by unfold markP; split <;> rfl
  rw [this]; exact h p (List.mem_filter.1 hp).1
theorem In.ack {v : Sk} {a : List (Ks.T KR)} (h : In v.bd.1 a) (now upto : Int) (xs : List (Int × Int)) : In (ackS v now upto xs).2.bd.1 a := by
  unfold ackS
  split
  · exact In.pass (In.rest h upto xs)
  · exact h
structure Ord (had : List (Ks.T KR)) (e own : Int) (v : Sk) : Prop where
  pc : In v.bd.1 had
  e : e = bN v.bf
  own : own = v.nx
  id : v.id = 3
theorem order_tri (d : Conf.Cf) (o : Sl) (ps : List OpS) (hd : 0 ≤ Conf.cH d ∧ U (Conf.cR d)) (hp : ∀ p ∈ ps, OkO p) : Tri Tryz.prog N_canterlaw25_SockOrder [.agg (Ks.mk Conf.KC d), .lf (.sl o)] [.lf .bool] (opSk o ps) (fun r => pur (r = true) emp) :=
  tri_0 (call_canterlaw25_SockOrder d o) fun w0 S R h => by
    unfold W_canterlaw25_SockOrder
    have h : Own w0 S R w0 (rarr o KO (ps.map Prod.fst) ^ rl (fun p : OpS => rarr (oS p.1) KR p.2) ps) := h
    have hol := (h.rd (s := o)).2
    rw [List.length_map] at hol
    obtain ⟨c, hce⟩ : ∃ c, c = Conf.configF d := ⟨_, rfl⟩
    have hc : Conf.OkC c := by rw [hce]; exact Conf.config_ok hd.1 hd.2
    have hcap : 0 ≤ Conf.cCap c ∧ Conf.cCap c ≤ 1073741824 := ⟨by have := hc.cap; omega, hc.cap.2⟩
    refine w_new h fun n1 w h => w_ldAll (b := n1) (x := d) h rfl (w_call (Conf.config_tri d) h fun r w h => ?_)
    obtain ⟨hr, h⟩ := h.purP; rw [hr, ← hce]
    refine w_setAll h (by rfl) fun w h => w_ldAll (b := n1) (x := c) h rfl (w_call (snew_tri 3 c) h fun r w h => ?_)
    obtain ⟨p, h⟩ := h.exP
    obtain ⟨hr, h⟩ := h.purP; rw [hr]
    have h : Own w0 S R w (sck p (newS 3 (Conf.cMss c) (Conf.cCap c)) ^ rarr o KO (ps.map Prod.fst) ^ rl (fun p : OpS => rarr (oS p.1) KR p.2) ps) := h.fin
    refine w_call awake_tri (h.le ((star_emp _).trans (star_comm _ _))) fun r w h => ?_
    obtain ⟨hr, h⟩ := h.purP; rw [hr]
    refine w_ite (fun c => (by cases c)) fun _ => ?_
    have i0 := new_inv 3 (Conf.cMss c) (Conf.cCap c) hcap
    have h := h.nil KR
    have h : Own w0 S R w (arr ⟨none, 0, 0⟩ KR [] ^ sck p (newS 3 (Conf.cMss c) (Conf.cCap c)) ^ rarr o KO (ps.map Prod.fst) ^ rl (fun p : OpS => rarr (oS p.1) KR p.2) ps) := h.fin
    refine w_loopE (cs := K_u3si) (fun (y : Int × Int × Int × Sl × Int) (a : Sk × List (Ks.T KR)) => arr y.2.2.2.1 KR a.2 ^ sck p a.1 ^ rarr o KO (ps.map Prod.fst) ^ rl (fun p : OpS => rarr (oS p.1) KR p.2) ps)
      (fun (y : Int × Int × Int × Sl × Int) a => (0 ≤ y.1 ∧ y.1 ≤ 4611686018427387904) ∧ (0 ≤ y.2.2.2.2 ∧ y.2.2.2.2 ≤ 80) ∧ IvS y.2.2.2.2 a.1 ∧ Ord a.2 y.2.1 y.2.2.1 a.1 ∧ (a.2.length : Int) ≤ y.2.2.2.2) (fun (y : Int × Int × Int × Sl × Int) _ => (80 - y.2.2.2.2).toNat) (newS 3 (Conf.cMss c) (Conf.cCap c), []) h ⟨by decide, by decide, i0, ⟨fun q hq => (by cases hq), rfl, rfl, rfl⟩, by show ((0:Nat):Int) ≤ 0; decide⟩ ?_
    rintro K (y : Int × Int × Int × Sl × Int) ⟨v, had⟩ w ⟨hnow, hir, hv, hO2, hlen⟩ h k
    obtain ⟨now, e, own, sl, i⟩ := y
    dsimp only at hnow hir hv hO2 hlen h ⊢
    refine w_ite (fun cc => ?_) fun cc => Own.retP rfl h.emp'
    have hci : i < ps.length ∧ i < 80 := by
      have cc : (decide (i < ((o.len : Nat) : Int)) && decide (i < 80)) = true := cc
      rw [Bool.and_eq_true, decide_eq_true_eq, decide_eq_true_eq] at cc
      omega
    have hi : i.toNat < ps.length := by omega
    have hwi : IntKind.i64.wrap (i + 1) = i + 1 := wi (by omega) (by omega)
    obtain ⟨q, hpi⟩ : ∃ q, ps[i.toNat]? = some q := ⟨_, List.getElem?_eq_getElem hi⟩
    have hpm : (ps.map Prod.fst)[i.toNat]? = some q.1 := by rw [List.getElem?_map, hpi]; rfl
    haveI := rd_oS hpi
    have hO := hp q (List.mem_of_getElem? hpi)
    obtain ⟨ht, htu, htl⟩ := later_r hnow (u_sec hO.g)
    refine w_idx (s := o) h hir.1 (by rw [List.length_map]; exact hi) (w_ldE h o i.toNat hpm rfl ?_)
    refine w_new h fun n11 w h => w_setAll h (by rfl) fun w h => w_ld (x := oG q.1) h rfl (w_call (radd_tri now _ (u_now hnow) (u_sec hO.g)) h fun r w h => ?_)
    obtain ⟨hr, h⟩ := h.purP; rw [hr]
    have et : (if (4611686018427387904 : Int) < addI now ((oG q.1).tmod 1000000000) then (4611686018427387904 : Int) else addI now ((oG q.1).tmod 1000000000)) = later now ((oG q.1).tmod 1000000000) := rfl
    rw [et]
    obtain ⟨t, hte⟩ : ∃ t, t = later now ((oG q.1).tmod 1000000000) := ⟨_, rfl⟩
    rw [← hte] at ht htl htu ⊢
    rw [hwi]
    have h : Own w0 S R w (blk n11 (Ks.mk KO q.1) ^ arr sl KR had ^ sck p v ^ rarr o KO (ps.map Prod.fst) ^ rl (fun p : OpS => rarr (oS p.1) KR p.2) ps) := h.fin
    have nx : ∀ (v' : Sk) (e' own' : Int) (sl' : Sl) (had' : List (Ks.T KR)) (w : World), IvS (i + 1) v' → Ord had' e' own' v' → had'.length ≤ had.length + 1 → Own w0 S R w (arr sl' KR had' ^ sck p v' ^ rarr o KO (ps.map Prod.fst) ^ rl (fun p : OpS => rarr (oS p.1) KR p.2) ps) → K (t, e', own', sl', i + 1) w := fun v' e' own' sl' had' w hv' ho' hl' h =>
      k (t, e', own', sl', i + 1) (v', had') w ⟨ht, ⟨by show 0 ≤ i + 1; omega, by show i + 1 ≤ 80; omega⟩, hv', ho', by show (had'.length : Int) ≤ i + 1; omega⟩ h (by show (80 - (i + 1)).toNat < (80 - i).toNat; omega)
    have ho0 := hv.ok.out
    have ho1 := hv.o
    unfold U at ho0
    refine w_ld (x := oK q.1) h rfl (w_join h (fun _ => blk n11 (Ks.mk KO q.1) ^ arr sl KR had ^ sck p v ^ rarr o KO (ps.map Prod.fst) ^ rl (fun p : OpS => rarr (oS p.1) KR p.2) ps) (fun _ : Bool => True) (fun (y : Bool) w _ h => ?_) ?_)
    rotate_left
    · refine w_ite (fun _ => ⟨trivial, h⟩) fun _ => w_ite (fun _ => ⟨trivial, h⟩) fun _ => ⟨trivial, h⟩
    refine w_ite (fun _ => ?_) fun _ => ?_
    · refine w_call (model_tri p v) h fun r w h => ?_
      obtain ⟨hr, h⟩ := h.purP; rw [hr]
      refine w_call (emit_tri p v hv.ok (pcs_lost hv.pc) t htu) h fun r w h => ?_
      obtain ⟨hr, h⟩ := h.purP; rw [hr]
      have hv' := hv.emit htu
      obtain ⟨v', hve⟩ : ∃ v', v' = (emitS v t).2 := ⟨_, rfl⟩
      rw [← hve] at hv' h
      have ho0' := hv'.ok.out
      have ho1' := hv'.o
      unfold U at ho0'
      refine w_new h fun n19 w h => w_setAll h (by rfl) fun w h => ?_
      refine w_ite (fun ce => ?_) fun ce => ?_
      · have ce : (emitS v t).1.2 ≠ 0 := by simpa using ce
        obtain ⟨_, e2, _⟩ := emit_no ce
        rw [← hve] at e2
        refine w_call (out_tri p v') h fun r w h => ?_
        obtain ⟨hr, h⟩ := h.purP; rw [hr]
        obtain ⟨m, hm⟩ : ∃ m, m = (if (1073741824:Int) < v'.out then (1073741824:Int) else v'.out) := ⟨_, rfl⟩
        have hmr : 0 ≤ m ∧ m ≤ 1073741824 := by rw [hm]; split <;> omega
        rw [← hm, wi (n := m) (by omega) (by omega)]
        refine w_call (SockC.done_tri p v' hv'.ok.out m (by omega)) h fun r w h => ?_
        obtain ⟨_, h⟩ := h.purP
        have hd : (doneS v' m).2.bd = v.bd ∧ (doneS v' m).2.bf = v.bf ∧ (doneS v' m).2.nx = v.nx ∧ (doneS v' m).2.id = v.id := by
          unfold doneS; split <;> exact ⟨e2.bd, e2.bf, e2.nx, e2.id⟩
        exact nx _ e own sl had w ((hv'.done m).le (by omega)) ⟨by rw [hd.1]; exact hO2.pc, by rw [hd.2.1]; exact hO2.e, by rw [hd.2.2.1]; exact hO2.own, by rw [hd.2.2.2]; exact hO2.id⟩ (by omega) h.fin
      · have ce : (emitS v t).1.2 = 0 := by simpa using ce
        have hw := emit_went hv htu ce
        obtain ⟨g, hg⟩ : ∃ g, g = (emitS v t).1.1 := ⟨_, rfl⟩
        rw [← hg, ← hve] at hw
        rw [← hg] at h
        have hn := hw.n
        have hgr : 0 ≤ gF g ∧ gF g + gN g ≤ 4611686018427387904 := by
          have b1 := hv'.ok.bf.nw
          have b2 := hv'.ok.bf.w
          have b3 := hv.ok.bf.u
          have b4 := hv.ok.bf.un
          cases hx : gA g with
          | false =>
            obtain ⟨n1, n2, _⟩ := hw.new hx
            have : bN v'.bf = bN v.bf + gN g := by rw [n2]
            rw [n1]; omega
          | true =>
            obtain ⟨_, n2, _⟩ := hw.old hx
            obtain ⟨z, hz, ez⟩ := lost_mem (l := v.bd.1) (by rw [n2])
            have hzo := hv.pc z hz
            rw [n2] at ez
            have e1 : gF g = pFrom z := congrArg Prod.fst ez
            have e2 : gF g + gN g = pTo z := congrArg Prod.snd ez
            have := hzo.f
            have := hzo.t
            omega
        have ewn : IntKind.u64.wrap (gN g) = gN g := wu (by omega) (by omega)
        have ews : IntKind.u64.wrap (gF g + gN g) = gF g + gN g := wu (by omega) (by omega)
        have hst : gS g = if own > t then own else t := by rw [hw.st, hO2.own]
        have hid : g.1 = 3 := hw.id.trans hO2.id
        refine w_ld (x := gF g) h rfl (w_ld (x := gF g) h rfl (w_ld (x := gN g) h rfl (w_new h fun n25 w h => w_setAll h (by rfl) fun w h => ?_)))
        rw [ewn, ews] at h
        have h : Own w0 S R w (blk n25 [.int .u64 (gF g), .int .u64 (gF g + gN g)] ^ blk n19 (Ks.mk KS g) ^ arr sl KR had ^ sck p v' ^ rarr o KO (ps.map Prod.fst) ^ rl (fun p : OpS => rarr (oS p.1) KR p.2) ps) := h.fin
        refine w_join h (fun _ => blk n25 [.int .u64 (gF g), .int .u64 (gF g + gN g)] ^ blk n19 (Ks.mk KS g) ^ arr sl KR had ^ sck p v' ^ rarr o KO (ps.map Prod.fst) ^ rl (fun p : OpS => rarr (oS p.1) KR p.2) ps) (fun b : Bool => b = false) (fun (b : Bool) w hb h => ?_) ?_
        · rw [hb]
          refine w_ite (fun c => (by cases c)) fun _ => ?_
          have hus : U (gS g) := by rw [hw.st]; exact U_max hv.ok.nx htu
          have hor : own = v.nx := hO2.own
          refine w_drw h fun w h => w_ld (x := gS g) h rfl (w_ld (x := gN g) h rfl (w_call (rdelay_tri (gN g) v.md.rate (by omega) hv.ok.md.rate) h fun r w h => ?_))
          obtain ⟨hr, h⟩ := h.purP; rw [hr]
          refine w_chk h rfl (w_call (radd_tri (gS g) _ hus (U_delay (by omega) hv.ok.md.rate)) h fun r w h => ?_)
          obtain ⟨hr, h⟩ := h.purP; rw [hr, ← hw.nx]
          refine w_ld (x := gA g) h rfl (w_ite (fun ca => ?_) fun ca => ?_)
          · have ca : gA g = false := by simpa using ca
            obtain ⟨n1, n2, n3, n4, n5⟩ := hw.new ca
            refine w_drw h fun w h => w_ldAll (b := n25) (x := ((gF g, gF g + gN g) : Int × Int)) h rfl (w_ld (x := gF g + gN g) h rfl (w_new h fun n48 w h => ?_))
            have h := h.blkArr n48 KR [(gF g, gF g + gN g)] rfl (by simp)
            have h : Own w0 S R w (arr ⟨some ⟨n48, 0⟩, 1, 1⟩ KR [(gF g, gF g + gN g)] ^ _) := h
            refine w_chk h rfl (w_app (s := sl) (xs := had) h rfl (by simp only [List.length_singleton]; omega) fun s' w _ h => ?_)
            refine w_chk h rfl (w_chk h rfl ?_)
            refine nx v' (gF g + gN g) v'.nx s' (had ++ [(gF g, gF g + gN g)]) w (hv'.le (by omega)) ⟨?_, by rw [n2]; show gF g + gN g = bN v.bf + gN g; rw [n1], rfl, hw.kid.trans hO2.id⟩ (by rw [List.length_append]; exact Nat.le_refl _) h.fin
            rw [n5]
            intro z hz
            rcases List.mem_append.1 hz with hz | hz
            · exact List.mem_append_left _ (hO2.pc z hz)
            · rw [List.mem_singleton.1 hz]
              exact List.mem_append_right _ (List.mem_singleton.2 rfl)
          · have ca : gA g = true := by simpa using ca
            obtain ⟨n1, n2, n3⟩ := hw.old ca
            exact nx v' e v'.nx sl had w (hv'.le (by omega)) ⟨by rw [n3]; exact hO2.pc.again _, by rw [n1]; exact hO2.e, rfl, hw.kid.trans hO2.id⟩ (by omega) h.fin
        · refine w_ld (x := g.1) h rfl ?_
          rw [hid]
          refine w_ite (fun c => (by cases c)) fun _ => w_ld (x := gA g) h rfl ?_
          have fin2 : ∀ {w : World}, Own w0 S R w (blk n25 [.int .u64 (gF g), .int .u64 (gF g + gN g)] ^ blk n19 (Ks.mk KS g) ^ arr sl KR had ^ sck p v' ^ rarr o KO (ps.map Prod.fst) ^ rl (fun p : OpS => rarr (oS p.1) KR p.2) ps) →
              (fun (b : Bool) w => b = false ∧ Own w0 S R w (blk n25 [.int .u64 (gF g), .int .u64 (gF g + gN g)] ^ blk n19 (Ks.mk KS g) ^ arr sl KR had ^ sck p v' ^ rarr o KO (ps.map Prod.fst) ^ rl (fun p : OpS => rarr (oS p.1) KR p.2) ps)) (gS g != (if own > t then own else t)) w := fun {w} h => ⟨by rw [hst]; simp, h⟩
          cases ca : gA g with
          | false =>
            obtain ⟨n1, n2, n3, n4, n5⟩ := hw.new ca
            refine w_ite (fun _ => ?_) fun c => (by cases c)
            refine w_ld (x := gF g) h rfl ?_
            rw [n1, ← hO2.e]
            refine w_ite (fun c => (by simp at c)) fun _ => w_ld (x := gA g) h rfl ?_
            rw [ca]
            refine w_ite (fun c => (by cases c)) fun _ => w_ld (x := gS g) h rfl ?_
            rw [n1, ← hO2.e] at fin2 h
            exact fin2 h
          | true =>
            obtain ⟨n1, n2, n3⟩ := hw.old ca
            refine w_ite (fun c => (by cases c)) fun _ => w_ld (x := gA g) h rfl ?_
            rw [ca]
            refine w_ite (fun _ => ?_) fun c => (by cases c)
            have hmem : ((gF g, gF g + gN g) : Ks.T KR) ∈ had := by
              obtain ⟨z, hz, ez⟩ := lost_mem (l := v.bd.1) (by rw [n2])
              rw [n2] at ez
              rw [show ((gF g, gF g + gN g) : Ks.T KR) = rgP z from ez]
              exact hO2.pc z hz
            refine w_ldAll (b := n25) (x := ((gF g, gF g + gN g) : Int × Int)) h rfl ?_
            refine w_callL (A := emp) (Q := rarr sl KR had) (rgi_in_tri sl (gF g, gF g + gN g) had (by omega)) (h.le ((star_emp _).trans (star_comm _ _))) fun r w h => ?_
            obtain ⟨hr, h⟩ := h.purP
            rw [hr.2 hmem]
            refine w_ite (fun c => (by cases c)) fun _ => w_ld (x := gS g) h rfl (fin2 h.fin)
    · refine w_ite (fun _ => ?_) fun _ => ?_
      · refine w_ld (x := oS q.1) h rfl (w_ite (fun c => ?_) fun _ => nx v e own sl had w (hv.le (by omega)) hO2 (by omega) h.fin)
        have hlen := (h.rd (s := oS q.1)).2
        have c : ((oS q.1).len : Int) ≤ 8 := of_decide_eq_true c
        refine w_ld (x := oU q.1) h rfl (w_ld (x := oS q.1) h rfl ?_)
        refine w_callL (A := sck p v) (Q := rarr (oS q.1) KR q.2) (sack_tri p v hv.ok hv.ps t (oU q.1) htu (oS q.1) q.2 (by omega)) h fun r w h => ?_
        obtain ⟨_, h⟩ := h.purP
        have ha : (ackS v t (oU q.1) q.2).2.nx = v.nx ∧ (ackS v t (oU q.1) q.2).2.id = v.id ∧ bN (ackS v t (oU q.1) q.2).2.bf = bN v.bf := by
          unfold ackS; split
          · exact ⟨rfl, rfl, (ak_N v.bf (oU q.1)).1⟩
          · exact ⟨rfl, rfl, rfl⟩
        exact nx (ackS v t (oU q.1) q.2).2 e own sl had w ((hv.ack htu (oU q.1) q.2).le (by omega)) ⟨hO2.pc.ack t (oU q.1) q.2, by rw [ha.2.2]; exact hO2.e, by rw [ha.1]; exact hO2.own, by rw [ha.2.1]; exact hO2.id⟩ (by omega) h.fin
      · refine w_ite (fun _ => ?_) fun _ => ?_
        · refine w_call (slose_tri p v hv.ok t htu) h fun r w h => ?_
          obtain ⟨_, h⟩ := h.purP
          exact nx (loseS v t) e own sl had w ((hv.lose htu).le (by omega)) ⟨hO2.pc.lose, hO2.e, hO2.own, hO2.id⟩ (by omega) h.fin
        · have hm := modr (oN q.1) (m := 100000) (by decide) (by decide)
          obtain ⟨m, hmm⟩ : ∃ m, m = 1 + IntKind.i64.wrap ((IntKind.u64.wrap (oN q.1)).tmod 100000) := ⟨_, rfl⟩
          refine w_ld (x := oN q.1) h rfl ?_
          rw [← hmm, wi (n := m) (by omega) (by omega)]
          refine w_call (write_tri p v hv.ok.bf m (by omega)) h fun r w h => ?_
          obtain ⟨_, h⟩ := h.purP
          have ew : bN (wrF v.bf m).2 = bN v.bf := by unfold wrF; split <;> (try split) <;> rfl
          exact nx (writeS v m).2 e own sl had w (hv.write (by omega) m) ⟨hO2.pc, by show e = bN (wrF v.bf m).2; rw [ew]; exact hO2.e, hO2.own, hO2.id⟩ (by omega) h.fin
end SockX


end Go.X
