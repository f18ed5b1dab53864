/- Contracts and plain facts: SockO SockP. -/
import Derived.Test.YtkideobegadadaaGreatBArith
import Derived.Test.YtkideobegadadaaGreatBWf
import Derived.Test.YtkideobegadadaaGreatBDelays
import Derived.Test.YtkideobegadadaaGreatBTarget
import Derived.Test.YtkideobegadadaaGreatBBbrMm
import Derived.Test.YtkideobegadadaaGreatBBbrP
import Derived.Test.YtkideobegadadaaGreatBBbrQ
import Derived.Test.YtkideobegadadaaGreatBBbrN
import Derived.Test.YtkideobegadadaaGreatBBbrU
import Derived.Test.YtkideobegadadaaGreatBSockB
import Derived.Test.YtkideobegadadaaGreatBSockC
import Derived.Test.YtkideobegadadaaGreatBSockE
import Derived.Test.YtkideobegadadaaGreatBSockG
import Derived.Test.YtkideobegadadaaGreatBSockI
import Derived.Test.YtkideobegadadaaGreatBSockK
import Derived.Test.YtkideobegadadaaGreatBSockN
import Derived.Test.YtkideobegadadaaGreatXw
import Derived.Test.YtkideobegadadaaGreatK
import Derived.Test.YtkideobegadadaaGreatF0
import Derived.Test.YtkideobegadadaaGreatF1
set_option linter.unusedVariables false
set_option linter.unusedSimpArgs false
set_option linter.unusedSectionVars false
namespace Go.X
open Go.Proofs
namespace SockO
open Arith ArithC Delays Board BbrM BbrMm SockA SockB SockM SockC SockD SockE SockF SockG SockH SockI SockJ SockL
/-! ### What stays true of a socket, whatever is done -/
structure OkPc (q : Pc) : Prop where
  f : 0 ≤ pFrom q
  ft : pFrom q < pTo q
  le : pTo q - pFrom q ≤ 65536
  t : pTo q ≤ 4611686018427387904
  s : OkSn (snP q)
  x : pLo q = true → pSk q = false
abbrev OkPcs (l : List Pc) : Prop := ∀ q ∈ l, OkPc q
theorem fly_sk {q : Pc} (h : flyP q = true) : pSk q = false ∧ pLo q = false := by
  unfold flyP at h
  cases h1 : pSk q <;> cases h2 : pLo q <;> rw [h1, h2] at h <;> first | exact ⟨rfl, rfl⟩ | cases h
theorem OkPc.lo {q : Pc} (h : OkPc q) (hf : flyP q = true) (x : Bool) : OkPc (setLo q x) := ⟨h.f, h.ft, h.le, h.t, ⟨h.s.a, h.s.b, h.s.c, h.s.d⟩, fun _ => (fly_sk hf).1⟩
theorem OkPc.lose {q : Pc} (h : OkPc q) : OkPc (loseP q) := by
  unfold loseP; split
  · exact h.lo (by assumption) true
  · exact h
theorem OkPc.mark {q : Pc} (h : OkPc q) (upto : Int) (xs : List (Int × Int)) : OkPc (markP upto xs q) := by
  unfold markP; split
  · exact ⟨h.f, h.ft, h.le, h.t, ⟨h.s.a, h.s.b, h.s.c, h.s.d⟩, fun hx => by cases hx⟩
  · exact h
theorem OkPc.again {q : Pc} (h : OkPc q) {s : Snt} (hs : OkSn s) : OkPc (againP q s) := ⟨h.f, h.ft, h.le, h.t, ⟨hs.a, hs.b, hs.c, hs.d⟩, fun hx => by cases hx⟩
theorem pcs_lose {l : List Pc} (h : OkPcs l) : OkPcs (l.map loseP) := fun q hq => by
  obtain ⟨p, hp, rfl⟩ := List.mem_map.1 hq
  exact (h p hp).lose
theorem pcs_pass : ∀ {l : List Pc}, OkPcs l → OkPcs (passF l).1
  | [], _ => fun q hq => by cases hq
  | p :: l, h => fun q hq => by
    have h1 := h p (List.mem_cons_self ..)
    have h2 := pcs_pass (l := l) fun q hq => h q (List.mem_cons_of_mem _ hq)
    simp only [passF] at hq
    split at hq
    · rename_i hh
      rcases List.mem_cons.1 hq with rfl | hq
      · exact h1.lo (by unfold hitF at hh; rw [Bool.and_eq_true] at hh; exact hh.1) true
      · exact h2 q hq
    · rcases List.mem_cons.1 hq with rfl | hq
      · exact h1
      · exact h2 q hq
theorem pcs_rest {l : List Pc} (h : OkPcs l) (upto : Int) (xs : List (Int × Int)) : OkPcs (restL upto xs l) := fun q hq => by
  obtain ⟨p, hp, rfl⟩ := List.mem_map.1 hq
  exact (h p (List.mem_filter.1 hp).1).mark upto xs
theorem pcs_again {l : List Pc} (h : OkPcs l) {s : Snt} (hs : OkSn s) : OkPcs (againF l s) := fun q hq => by
  unfold againF at hq
  split at hq
  · rename_i p hp
    split at hq
    · exact h q hq
    · rcases List.mem_or_eq_of_mem_set hq with hq | rfl
      · exact h q hq
      · exact (h p (List.mem_of_getElem? hp)).again hs
  · exact h q hq
theorem again_len (l : List Pc) (s : Snt) : (againF l s).length = l.length := by
  unfold againF
  split
  · split
    · rfl
    · rw [List.length_set]
  · rfl
theorem lost_mem {l : List Pc} (h : (lostF l).2 = true) : ∃ q ∈ l, (lostF l).1 = (q.1, q.2.1) := by
  unfold lostF at h ⊢
  split
  · rename_i p hp
    rw [hp] at h
    dsimp only at h
    split
    · rename_i hc; rw [if_pos hc] at h; cases h
    · exact ⟨p, List.mem_of_getElem? hp, rfl⟩
  · rename_i hp; rw [hp] at h; cases h
theorem pcs_lost {l : List Pc} (h : OkPcs l) : OkL l := fun hl => by
  obtain ⟨q, hq, e⟩ := lost_mem hl
  have h1 := h q hq
  have h2 := h1.ft
  have h3 := h1.le
  rw [e]
  exact ⟨by show 0 ≤ pTo q - pFrom q; omega, h3⟩
structure IvS (k : Int) (v : Sk) : Prop where
  ok : OkSk v
  pc : OkPcs v.bd.1
  e : v.bd.2 = bN v.bf
  w : bW v.bf ≤ k * 1073741824
  o : v.out ≤ 1073807360
theorem IvS.bl {k : Int} {v : Sk} (h : IvS k v) : v.bd.1.length ≤ 4294967296 := by have := h.ok.bl; omega
theorem IvS.ps {k : Int} {v : Sk} (h : IvS k v) : OkPs v.bd.1 := fun q hq => (h.pc q hq).s
theorem IvS.le {k j : Int} {v : Sk} (h : IvS k v) (hj : k ≤ j) : IvS j v := { h with w := by have := h.w; omega }
theorem new_inv (id mss cap : Int) (hc : 0 ≤ cap ∧ cap ≤ 1073741824) : IvS 0 (newS id mss cap) where
  ok := {
    bf := ⟨(by decide : (0:Int) ≤ 0), (by decide : (0:Int) ≤ 0), (by decide : (0:Int) ≤ 0), (by decide : (0:Int) - 0 ≤ 1073741824), (by decide : (1073741824:Int) ≤ 1073741824), (by decide : (0:Int) ≤ 4611686018427387904)⟩
    bl := by show (0 : Nat) ≤ 4096; decide
    sp := sp0_ok
    md := OkM.new _
    mss := clampM_r mss
    cap := hc
    out := U_lit 0
    nx := U_lit 0
    fl := U_lit 0 }
  pc := fun q hq => by cases hq
  e := rfl
  w := by show (0 : Int) ≤ 0 * 1073741824; decide
  o := by show (0 : Int) ≤ 1073807360; decide
theorem IvS.write {k : Int} {v : Sk} (h : IvS k v) (hk : k < 4294967296) (n : Int) : IvS (k + 1) (writeS v n).2 := by
  have hw := h.w
  have hl := h.ok.bf.ll
  have hh := h.ok.bf.nw
  have hu := h.ok.bf.un
  have h0 := h.ok.bf.u
  unfold writeS wrF
  split
  · exact h.le (by omega)
  · split
    · exact h.le (by omega)
    · rename_i c1 c2
      have hb : bW v.bf + n ≤ bW v.bf + 1073741824 := by omega
      have hok : OkBf (bW v.bf + n, bN v.bf, bU v.bf, bL v.bf) := ⟨h0, hu, by show bN v.bf ≤ bW v.bf + n; omega, by show bW v.bf + n - bU v.bf ≤ bL v.bf; omega, hl, by show bW v.bf + n ≤ 4611686018427387904; omega⟩
      exact { ok := { h.ok with bf := hok }, pc := h.pc, e := h.e, w := by show bW v.bf + n ≤ (k + 1) * 1073741824; omega, o := h.o }
theorem IvS.done {k : Int} {v : Sk} (h : IvS k v) (n : Int) : IvS k (doneS v n).2 := by
  have ho := h.ok.out
  unfold U at ho
  unfold doneS
  split
  · exact h
  · rename_i c
    have hb := h.o
    exact { h with ok := { h.ok with out := by show U (v.out - n); unfold U; omega }, o := by show v.out - n ≤ 1073807360; omega }
theorem limit_ok {s : Sp} (hs : OkSp s) {f : Int} (hf : U f) : OkSp (limitP s f) := by
  have h1 : U (if addI (pD s) f > 1 then addI (pD s) f else 1) := by
    have := U_add hs.d hf
    split
    · exact this
    · exact U_lit 1
  exact { hs with l := h1 }
theorem touch_ok {s : Sp} (hs : OkSp s) {now f : Int} (hn : U now) : OkSp (touch s now f) := by
  unfold touch; split
  · exact { hs with t := hn, f := hn }
  · exact hs
theorem sent_ok {s : Sp} (hs : OkSp s) {now f : Int} (hn : U now) : OkSn (sentP s now f).1 :=
  have h := touch_ok hs (f := f) hn
  ⟨hn, h.d, h.t, h.f⟩
theorem IvS.may {k : Int} {v : Sk} (h : IvS k v) : IvS k (mayS v).2 := by
  unfold mayS
  split
  · dsimp only
    split
    · exact { h with ok := { h.ok with sp := limit_ok h.ok.sp h.ok.fl } }
    · exact h
  · split
    · exact h
    · split <;> exact h
theorem U_max {a b : Int} (ha : U a) (hb : U b) : U (if a > b then a else b) := by split; exact ha; exact hb
theorem IvS.put {k : Int} {v : Sk} (h : IvS k v) {rg : Int × Int} {ag : Bool} {now : Int} (hn : U now) (hr : 0 ≤ rg.2 - rg.1 ∧ rg.2 - rg.1 ≤ 65536) (ho : v.out < 1073741824) : IvS k (putS v rg ag now).2 := by
  have h1 := h.ok.out
  unfold U at h1
  exact { h with ok := { h.ok with out := by show U (v.out + (rg.2 - rg.1)); unfold U; omega, nx := U_add (U_max h.ok.nx hn) (U_delay (by omega) h.ok.md.rate) }, o := by show v.out + (rg.2 - rg.1) ≤ 1073807360; omega }
theorem flight_U (l : List Pc) : U (flightF l) := fl_U l
theorem may_go {v : Sk} (h : (mayS v).1 = 0) (hl : (lostF v.bd.1).2 = false) : bW v.bf - bN v.bf ≠ 0 ∧ v.bd.1.length < 4096 := by
  unfold mayS at h
  by_cases c1 : (lostF v.bd.1).2 = false ∧ bW v.bf - bN v.bf = 0
  · rw [if_pos c1] at h; cases h
  · rw [if_neg c1] at h
    split at h
    · cases h
    · by_cases c3 : (lostF v.bd.1).2 = false ∧ (v.bd.1.length : Int) ≥ 4096
      · rw [if_pos c3] at h; cases h
      · exact ⟨fun e => c1 ⟨hl, e⟩, by
          have : ¬ (v.bd.1.length : Int) ≥ 4096 := fun e => c3 ⟨hl, e⟩
          omega⟩
/-- A new segment: how long it is. -/
abbrev cutN (v : Sk) : Int := min (bW v.bf - bN v.bf) (skTso v)
theorem cut_r {k : Int} {v : Sk} (h : IvS k v) (hu : bW v.bf - bN v.bf ≠ 0) : 1 ≤ cutN v ∧ cutN v ≤ 65536 ∧ cutN v ≤ bW v.bf - bN v.bf := by
  have := tso_r v.md.rate v.mss h.ok.md.rate.1
  have := h.ok.bf.nw
  unfold cutN skTso
  omega
theorem tk_eq {k : Int} {v : Sk} (h : IvS k v) (hu : bW v.bf - bN v.bf ≠ 0) : tkF v.bf (skTso v) = (((bN v.bf, bN v.bf + cutN v), true), (bW v.bf, bN v.bf + cutN v, bU v.bf, bL v.bf)) := by
  have := tso_r v.md.rate v.mss h.ok.md.rate.1
  unfold tkF
  rw [if_pos ⟨by unfold skTso; omega, hu⟩]
theorem sent_eq {k : Int} {v : Sk} (h : IvS k v) (hu : bW v.bf - bN v.bf ≠ 0) (hl : v.bd.1.length < 4096) (s : Snt) : sentF v.bd (bN v.bf) (bN v.bf + cutN v) s = (0, (v.bd.1 ++ [mkPc (bN v.bf) (bN v.bf + cutN v) s], bN v.bf + cutN v)) := by
  have hc := cut_r h hu
  have he := h.e
  unfold sentF
  rw [if_neg (by omega), if_neg (by omega)]
/-- What goes, spelled out. -/
abbrev newP (v : Sk) (now : Int) : Sk := { touchS v now with bf := (bW v.bf, bN v.bf + cutN v, bU v.bf, bL v.bf), bd := (v.bd.1 ++ [mkPc (bN v.bf) (bN v.bf + cutN v) (sentP v.sp now (skFl v)).1], bN v.bf + cutN v) }
abbrev oldP (v : Sk) (now : Int) : Sk := { touchS v now with bd := (againF v.bd.1 (sentP v.sp now (skFl v)).1, v.bd.2) }
theorem go_new {k : Int} {v : Sk} (h : IvS k v) (now : Int) (hm : (mayS v).1 = 0) (hl : (lostF v.bd.1).2 = false) : goS v now = putS (newP v now) (bN v.bf, bN v.bf + cutN v) false now := by
  obtain ⟨h1, h2⟩ := may_go hm hl
  unfold goS
  rw [if_neg (by rw [hl]; intro c; cases c), tk_eq h h1]
  dsimp only
  rw [sent_eq h h1 h2]
theorem go_old (v : Sk) (now : Int) (hl : (lostF v.bd.1).2 = true) : goS v now = putS (oldP v now) (lostF v.bd.1).1 true now := by
  unfold goS
  rw [if_pos hl]
theorem newP_inv {k : Int} {v : Sk} (h : IvS k v) {now : Int} (hn : U now) (hm : (mayS v).1 = 0) (hl : (lostF v.bd.1).2 = false) : IvS k (newP v now) := by
  obtain ⟨h1, h2⟩ := may_go hm hl
  have hc := cut_r h h1
  have b1 := h.ok.bf.u
  have b2 := h.ok.bf.un
  have b3 := h.ok.bf.nw
  have b6 := h.ok.bf.w
  have hs := sent_ok h.ok.sp (f := skFl v) hn
  exact {
    ok := { h.ok with
      bf := ⟨b1, by show bU v.bf ≤ bN v.bf + cutN v; omega, by show bN v.bf + cutN v ≤ bW v.bf; omega, h.ok.bf.l, h.ok.bf.ll, b6⟩
      bl := by show (v.bd.1 ++ [_]).length ≤ 4096; rw [List.length_append]; simp; omega
      sp := touch_ok h.ok.sp hn
      fl := flight_U _ }
    pc := fun q hq => by
      rcases List.mem_append.1 hq with hq | hq
      · exact h.pc q hq
      · rw [List.mem_singleton.1 hq]
        exact ⟨by show 0 ≤ bN v.bf; omega, by show bN v.bf < bN v.bf + cutN v; omega, by show bN v.bf + cutN v - bN v.bf ≤ 65536; omega, by show bN v.bf + cutN v ≤ 4611686018427387904; omega, hs, fun hx => by cases hx⟩
    e := rfl
    w := h.w
    o := h.o }
theorem oldP_inv {k : Int} {v : Sk} (h : IvS k v) {now : Int} (hn : U now) : IvS k (oldP v now) :=
  { ok := { h.ok with
      bl := by show (againF v.bd.1 _).length ≤ 4096; rw [again_len]; exact h.ok.bl
      sp := touch_ok h.ok.sp hn
      fl := flight_U _ }
    pc := pcs_again h.pc (sent_ok h.ok.sp hn)
    e := h.e
    w := h.w
    o := h.o }
theorem IvS.emit {k : Int} {v : Sk} (h : IvS k v) {now : Int} (hn : U now) : IvS k (emitS v now).2 := by
  unfold emitS
  by_cases hm : (mayS v).1 = 0
  · rw [if_neg (by rw [hm]; exact fun e => e rfl)]
    obtain ⟨ho, _⟩ := may_out h.ok.cap.2 h.ok.md.rate.1 hm
    show IvS k (goS v now).2
    cases hl : (lostF v.bd.1).2 with
    | true =>
      rw [go_old v now hl]
      exact (oldP_inv h hn).put hn (pcs_lost h.pc hl) ho
    | false =>
      rw [go_new h now hm hl]
      have hc := cut_r h (may_go hm hl).1
      exact (newP_inv h hn hm hl).put hn (by show 0 ≤ bN v.bf + cutN v - bN v.bf ∧ bN v.bf + cutN v - bN v.bf ≤ 65536; omega) ho
  · rw [if_pos hm]
    exact h.may
theorem learn_inv {k : Int} {v : Sk} (h : IvS k v) {now lost : Int} (hn : U now) (hl : U lost) : IvS k (learnS v now lost) := by
  have hts := tso_r v.md.rate v.mss h.ok.md.rate.1
  have ht := take_ok h.ok.sp hn hl h.ok.fl
  have hsp := h.ok.sp
  exact { h with ok := { h.ok with
    sp := ⟨hsp.d, hsp.t, hsp.f, hsp.l, U_lit 0, U_lit 0, U_lit 0, U_lit 0, U_lit 0⟩
    md := h.ok.md.upd ht ⟨by unfold skTso; omega, by unfold skTso; omega⟩ } }
theorem IvS.lose {k : Int} {v : Sk} (h : IvS k v) {now : Int} (hn : U now) : IvS k (loseS v now) :=
  learn_inv (v := { v with bd := (v.bd.1.map loseP, v.bd.2) }) { ok := OkSk.lose h.ok, pc := pcs_lose h.pc, e := h.e, w := h.w, o := h.o } hn (flight_U _)
theorem ak_N (b : Bf) (upto : Int) : bN (akF b upto).2 = bN b ∧ bW (akF b upto).2 = bW b := by
  unfold akF; split <;> exact ⟨rfl, rfl⟩
theorem IvS.ack {k : Int} {v : Sk} (h : IvS k v) {now : Int} (hn : U now) (upto : Int) (xs : List (Int × Int)) : IvS k (ackS v now upto xs).2 := by
  unfold ackS
  split
  · obtain ⟨e1, e2⟩ := ak_N v.bf upto
    exact learn_inv (v := toldS v now upto xs) { ok := toldS_ok h.ok h.ps hn upto xs, pc := pcs_pass (pcs_rest h.pc upto xs), e := by show v.bd.2 = bN (akF v.bf upto).2; rw [e1]; exact h.e, w := by show bW (akF v.bf upto).2 ≤ _; rw [e2]; exact h.w, o := h.o } hn (pass_U _)
  · exact h
end SockO

namespace SockP
open Arith ArithC Delays Board BbrM BbrMm SockA SockB SockM SockC SockD SockE SockF SockG SockH SockI SockJ SockK SockL SockO
/-! ### Awake, and a nil socket -/
abbrev plainC : Ks.T KCf := (3000, 15000, 100, 50, 10000000000, 0, false, 100000, 1000)
theorem plain_tri : Tri Tryz.prog N_canterref20_Plain [] [.agg KCf] emp (fun r => pur (r = plainC) emp) :=
  tri_0 call_canterref20_Plain fun w0 S R h => by
    unfold W_canterref20_Plain
    refine w_new h fun n1 w h => w_setAll h (by rfl) fun w h => w_ldAll (b := n1) (x := plainC) h rfl ?_
    exact Own.retP rfl h.emp'
abbrev aw0 : Sk := newS 1 1000 100000
abbrev aw1 : Sk := (writeS aw0 100).2
theorem awake_eq : (writeS aw0 100).1 = 0 ∧ (emitS aw1 5).1 = ((1, 0, 100, 5, false), 0) ∧ (emitS aw1 5).2.out = 100 ∧ skFl (emitS aw1 5).2 = 100 := by decide +kernel
theorem cap_plain : (0:Int) ≤ 100000 ∧ (100000:Int) ≤ 1073741824 := by decide
theorem aw0_inv : IvS 0 aw0 := new_inv 1 1000 100000 cap_plain
theorem aw1_inv : IvS 1 aw1 := aw0_inv.write (by decide) 100
theorem awake_tri : Tri Tryz.prog N_canterlaw25_awake [] [.lf .bool] emp (fun r => pur (r = true) emp) :=
  tri_0 call_canterlaw25_awake fun w0 S R h => by
    unfold W_canterlaw25_awake
    obtain ⟨h1, h2, h3, h4⟩ := awake_eq
    refine w_call plain_tri (h.le (star_emp _)) fun r w h => ?_
    obtain ⟨hr, h⟩ := h.purP; rw [hr]
    refine w_call (snew_tri 1 plainC) h fun r w h => ?_
    obtain ⟨p, h⟩ := h.exP
    obtain ⟨hr, h⟩ := h.purP; rw [hr]
    have h : Own w0 S R w (sck p aw0 ^ emp) := h.fin
    refine w_join h (fun _ => sck p aw1) (fun _ => True) (fun _ w _ h => ?_) ?_
    · refine w_call (emit_tri p aw1 aw1_inv.ok (pcs_lost aw1_inv.pc) 5 (U_lit 5)) h fun r w h => ?_
      obtain ⟨hr, h⟩ := h.purP; rw [hr, h2]
      refine w_new h fun n w h => w_setAll h (by rfl) fun w h => w_ite (fun _ => ?_) fun c => (by cases c)
      refine w_ldAll (b := n) (x := ((1, 0, 100, 5, false) : Sg)) h rfl (w_ite (fun _ => ?_) fun c => (by cases c))
      refine w_call (out_tri p (emitS aw1 5).2) h fun r w h => ?_
      obtain ⟨hr, h⟩ := h.purP; rw [hr, h3]
      refine w_ite (fun _ => ?_) fun c => (by cases c)
      refine w_call (SockC.flight_tri p (emitS aw1 5).2 (aw1_inv.emit (U_lit 5)).bl) h fun r w h => ?_
      obtain ⟨hr, h⟩ := h.purP; rw [hr, h4]
      exact Own.retP rfl h.emp'
    · refine w_ite (fun c => (by simp at c)) fun _ => ?_
      refine w_call (write_tri p aw0 aw0_inv.ok.bf 100 (by decide)) h fun r w h => ?_
      obtain ⟨hr, h⟩ := h.purP; rw [hr, h1]
      refine w_ite (fun c => (by cases c)) fun _ => ?_
      exact ⟨trivial, h.fin⟩
end SockP


end Go.X
