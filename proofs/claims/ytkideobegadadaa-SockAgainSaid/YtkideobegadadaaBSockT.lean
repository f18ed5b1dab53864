/- Contracts and plain facts: SockQ SockT. -/
import Derived.Test.YtkideobegadadaaBArith
import Derived.Test.YtkideobegadadaaBDelays
import Derived.Test.YtkideobegadadaaBTarget
import Derived.Test.YtkideobegadadaaBBbrMm
import Derived.Test.YtkideobegadadaaBBbrW
import Derived.Test.YtkideobegadadaaBBbrL
import Derived.Test.YtkideobegadadaaBBbrO
import Derived.Test.YtkideobegadadaaBSockA
import Derived.Test.YtkideobegadadaaBSockM
import Derived.Test.YtkideobegadadaaBSockD
import Derived.Test.YtkideobegadadaaBSockF
import Derived.Test.YtkideobegadadaaBSockH
import Derived.Test.YtkideobegadadaaBSockJ
import Derived.Test.YtkideobegadadaaBSockL
import Derived.Test.YtkideobegadadaaBSockP
import Derived.Test.YtkideobegadadaaXw
import Derived.Test.YtkideobegadadaaK
import Derived.Test.YtkideobegadadaaF0
import Derived.Test.YtkideobegadadaaF1
set_option linter.unusedVariables false
set_option linter.unusedSimpArgs false
set_option linter.unusedSectionVars false
namespace Go.X
open Go.Proofs
namespace SockQ
open Arith ArithC Delays Board BbrM BbrMm SockA SockB SockM SockC SockD SockE SockF SockG SockH SockI SockJ SockL SockO
/-! ### What is under way, and what an emission does -/
def flS : List Pc → Int
  | [] => 0
  | p :: l => (if flyP p then pTo p - pFrom p else 0) + flS l
theorem flS_fold : ∀ (l : List Pc), OkPcs l → ∀ (n : Int), 0 ≤ n → n + 65536 * (l.length : Int) < 18446744073709551616 → l.foldl addF n = n + flS l
  | [], _, n, _, _ => by show n = n + 0; omega
  | p :: l, h, n, h0, h1 => by
    have hp := h p (List.mem_cons_self ..)
    have a1 := hp.ft
    have a2 := hp.le
    rw [List.length_cons] at h1
    have e : addF n p = n + (if flyP p then pTo p - pFrom p else 0) := by
      unfold addF
      split
      · rw [wu (n := pTo p - pFrom p) (by omega) (by omega)]
        exact wu (by omega) (by omega)
      · omega
    have hb : 0 ≤ (if flyP p = true then pTo p - pFrom p else 0) ∧ (if flyP p = true then pTo p - pFrom p else 0) ≤ 65536 := by split <;> omega
    rw [List.foldl_cons, flS_fold l (fun q hq => h q (List.mem_cons_of_mem _ hq)) _ (by rw [e]; omega) (by rw [e]; omega), e, flS]
    omega
theorem flight_eq {l : List Pc} (h : OkPcs l) (hl : l.length ≤ 4096) : flightF l = flS l := by
  have := flS_fold l h 0 (by decide) (by omega)
  rw [flightF, this]; omega
theorem flS_app : ∀ (l m : List Pc), flS (l ++ m) = flS l + flS m
  | [], m => by show flS m = 0 + flS m; omega
  | p :: l, m => by show _ + flS (l ++ m) = _ + flS l + flS m; rw [flS_app l m]; omega
theorem flS_set : ∀ {l : List Pc} {i : Nat} {p : Pc} (q : Pc), l[i]? = some p → flS (l.set i q) = flS l - (if flyP p then pTo p - pFrom p else 0) + (if flyP q then pTo q - pFrom q else 0)
  | [], i, p, q, h => by cases h
  | a :: l, 0, p, q, h => by
    cases h
    show _ + flS l = (_ + flS l) - _ + _
    omega
  | a :: l, i + 1, p, q, h => by
    have := flS_set (l := l) (i := i) (p := p) q (by simpa using h)
    show _ + flS (l.set i q) = (_ + flS l) - _ + _
    rw [this]
    omega
theorem fI_some {α : Type} {f : α → Bool} {xs : List α} (h : ¬ fI f xs < 0) : ∃ x, xs[(fI f xs).toNat]? = some x ∧ f x = true := by
  unfold fI at h ⊢
  split at h
  · rename_i i hi
    obtain ⟨hl, hp, _⟩ := List.findIdx?_eq_some_iff_getElem.1 hi
    exact ⟨xs[i], by simp [List.getElem?_eq_getElem hl], hp⟩
  · exact absurd (by decide : (-1 : Int) < 0) h
/-- The first lost one, and the board with it under way again. -/
theorem lost_at {l : List Pc} (h : (lostF l).2 = true) : ∃ i p, l[i]? = some p ∧ pLo p = true ∧ (lostF l).1 = (pFrom p, pTo p) ∧ ∀ s, againF l s = l.set i (againP p s) := by
  have hi : ¬ fI pLo l < 0 := fun hc => by rw [lostF_no hc] at h; cases h
  obtain ⟨p, hp, hl⟩ := fI_some hi
  refine ⟨(fI pLo l).toNat, p, hp, hl, ?_, fun s => ?_⟩
  · unfold lostF; rw [hp]; dsimp only; rw [if_neg hi]
  · unfold againF; rw [hp]; dsimp only; rw [if_neg hi]
theorem again_fl {l : List Pc} (hl : OkPcs l) (h : (lostF l).2 = true) (s : Snt) : flS (againF l s) = flS l + ((lostF l).1.2 - (lostF l).1.1) ∧ 1 ≤ (lostF l).1.2 - (lostF l).1.1 := by
  obtain ⟨i, p, hp, hlo, e1, e2⟩ := lost_at h
  have ho := hl p (List.mem_of_getElem? hp)
  have hsk := ho.x hlo
  have h1 := ho.ft
  have f1 : flyP p = false := by unfold flyP; rw [hlo]; simp
  have f2 : flyP (againP p s) = true := by
    show (!(pSk p) && !false) = true
    rw [hsk]; rfl
  rw [e2, flS_set _ hp, e1, f1, f2]
  refine ⟨?_, by show 1 ≤ pTo p - pFrom p; omega⟩
  show flS l - 0 + (pTo p - pFrom p) = flS l + (pTo p - pFrom p)
  omega
theorem may_yes {v : Sk} (h : (mayS v).1 = 0) : skFl v < v.md.win ∧ v.out < belowF v.md.rate (skTso v) v.cap := by
  unfold mayS at h
  split at h
  · cases h
  · split at h
    · cases h
    · rename_i c; exact Classical.not_not.1 c
theorem emit_yes {v : Sk} {now : Int} (h : (emitS v now).1.2 = 0) : (mayS v).1 = 0 := by
  by_cases hm : (mayS v).1 = 0
  · exact hm
  · unfold emitS at h; rw [if_pos hm] at h; exact h
/-- The segments' lengths and places. -/
abbrev gN (g : Sg) : Int := g.2.2.1
abbrev gF (g : Sg) : Int := g.2.1
abbrev gS (g : Sg) : Int := g.2.2.2.1
abbrev gA (g : Sg) : Bool := g.2.2.2.2
structure Went (v : Sk) (now : Int) (g : Sg) (v' : Sk) : Prop where
  n : 1 ≤ gN g ∧ gN g ≤ 65536
  id : g.1 = v.id
  st : gS g = if v.nx > now then v.nx else now
  out : v'.out = v.out + gN g
  fl : skFl v' = skFl v + gN g
  win : skFl v < v.md.win
  lim : v.out < belowF v.md.rate (skTso v) v.cap
  md : v'.md = v.md
  kid : v'.id = v.id
  mss : v'.mss = v.mss
  cap : v'.cap = v.cap
  nx : v'.nx = addI (gS g) (delayI (gN g) v.md.rate)
  new : gA g = false → gF g = bN v.bf ∧ v'.bf = (bW v.bf, bN v.bf + gN g, bU v.bf, bL v.bf) ∧ (lostF v.bd.1).2 = false ∧ gN g = cutN v ∧ v'.bd = (v.bd.1 ++ [mkPc (gF g) (gF g + gN g) (sentP v.sp now (skFl v)).1], gF g + gN g)
  old : gA g = true → v'.bf = v.bf ∧ lostF v.bd.1 = ((gF g, gF g + gN g), true) ∧ v'.bd = (againF v.bd.1 (sentP v.sp now (skFl v)).1, v.bd.2)
theorem emit_went {k : Int} {v : Sk} (h : IvS k v) {now : Int} (hn : U now) (he : (emitS v now).1.2 = 0) : Went v now (emitS v now).1.1 (emitS v now).2 := by
  have hm := emit_yes he
  obtain ⟨m1, m2⟩ := may_yes hm
  have hbl := h.ok.bl
  have e : emitS v now = (((goS v now).1, 0), (goS v now).2) := by unfold emitS; rw [if_neg (fun c => c hm)]
  rw [e]
  dsimp only
  cases hl : (lostF v.bd.1).2 with
  | true =>
    have hp := oldP_inv h hn
    obtain ⟨f1, f2⟩ := again_fl h.pc hl (sentP v.sp now (skFl v)).1
    obtain ⟨_, f3⟩ := pcs_lost h.pc hl
    rw [go_old v now hl]
    have hF : skFl (oldP v now) = skFl v + ((lostF v.bd.1).1.2 - (lostF v.bd.1).1.1) := by
      show flightF (againF v.bd.1 _) = flightF v.bd.1 + _
      rw [flight_eq hp.pc hp.ok.bl, flight_eq h.pc h.ok.bl]
      exact f1
    exact ⟨⟨f2, f3⟩, rfl, rfl, rfl, hF, m1, m2, rfl, rfl, rfl, rfl, rfl, fun c => (by cases c), fun _ => ⟨rfl, by
      show lostF v.bd.1 = (((lostF v.bd.1).1.1, (lostF v.bd.1).1.1 + ((lostF v.bd.1).1.2 - (lostF v.bd.1).1.1)), true)
      rw [show (lostF v.bd.1).1.1 + ((lostF v.bd.1).1.2 - (lostF v.bd.1).1.1) = (lostF v.bd.1).1.2 by omega]
      exact Prod.ext rfl hl, rfl⟩⟩
  | false =>
    obtain ⟨g1, g2⟩ := may_go hm hl
    have hc := cut_r h g1
    have hp := newP_inv h hn hm hl
    rw [go_new h now hm hl]
    have hw : bN v.bf + cutN v - bN v.bf = cutN v := by omega
    have hF : skFl (newP v now) = skFl v + (bN v.bf + cutN v - bN v.bf) := by
      show flightF (v.bd.1 ++ [_]) = flightF v.bd.1 + _
      rw [flight_eq hp.pc hp.ok.bl, flight_eq h.pc h.ok.bl, flS_app]
      show _ + (bN v.bf + cutN v - bN v.bf + 0) = _
      omega
    refine ⟨⟨by show 1 ≤ bN v.bf + cutN v - bN v.bf; omega, by show bN v.bf + cutN v - bN v.bf ≤ 65536; omega⟩, rfl, rfl, rfl, hF, m1, m2, rfl, rfl, rfl, rfl, rfl, fun _ => ⟨rfl, ?_, hl, hw, ?_⟩, fun c => (by cases c)⟩
    · show (bW v.bf, bN v.bf + cutN v, bU v.bf, bL v.bf) = (bW v.bf, bN v.bf + (bN v.bf + cutN v - bN v.bf), bU v.bf, bL v.bf)
      rw [hw]
    · show (v.bd.1 ++ [mkPc (bN v.bf) (bN v.bf + cutN v) _], bN v.bf + cutN v) = (v.bd.1 ++ [mkPc (bN v.bf) (bN v.bf + (bN v.bf + cutN v - bN v.bf)) _], bN v.bf + (bN v.bf + cutN v - bN v.bf))
      rw [hw]
end SockQ

namespace SockT
open Arith ArithC Delays Board BbrM BbrMm SockA SockB SockM SockC SockD SockE SockF SockG SockH SockI SockJ SockK SockL SockO SockP SockQ
/-! ### Again -/
abbrev aS (k : Nat) : Sk := (writeS (newS 0 1000 100000) (2000 * (1 + (k : Int)))).2
abbrev aD (v : Sk) (now : Int) : Sk := (doneS (emitS v now).2 (gN (emitS v now).1.1)).2
abbrev aL (v : Sk) : Sk := loseS (emitS (aD v 0) 0).2 5
theorem again_eq : ∀ k, k < 10 → (emitS (aS k) 0).1.2 = 0 ∧ (emitS (aD (aS k) 0) 0).1.2 ≠ 0 ∧ skFl (aL (aS k)) = 0 ∧ (emitS (aL (aS k)) 10).1.2 = 0 ∧ gA (emitS (aL (aS k)) 10).1.1 = true ∧ gF (emitS (aL (aS k)) 10).1.1 = gF (emitS (aS k) 0).1.1 ∧ gN (emitS (aL (aS k)) 10).1.1 = gN (emitS (aS k) 0).1.1 := by decide +kernel
theorem again_tri (n : Int) : Tri Try.prog N_canterlaw25_SockAgain [.lf (.int .i64 n)] [.lf .bool] emp (fun r => pur (r = true) emp) :=
  tri_0 (call_canterlaw25_SockAgain n) fun w0 S R h => by
    unfold W_canterlaw25_SockAgain
    have u0 : U 0 := U_lit 0
    have i0 : IvS 0 (newS 0 1000 100000) := new_inv 0 1000 100000 cap_plain
    have hm := modr n (m := 10) (by decide) (by decide)
    obtain ⟨k, hk⟩ : ∃ k : Nat, (k : Int) = IntKind.i64.wrap ((IntKind.u64.wrap n).tmod 10) := ⟨(IntKind.i64.wrap ((IntKind.u64.wrap n).tmod 10)).toNat, by omega⟩
    rw [← hk] at hm ⊢
    have eN : IntKind.i64.wrap (2000 * IntKind.i64.wrap (1 + (k : Int))) = 2000 * (1 + (k : Int)) := by rw [wi (n := 1 + (k : Int)) (by omega) (by omega)]; exact wi (by omega) (by omega)
    rw [eN]
    obtain ⟨v1, hv1⟩ : ∃ v1, v1 = aS k := ⟨_, rfl⟩
    obtain ⟨g, hg⟩ : ∃ g, g = (emitS v1 0).1.1 := ⟨_, rfl⟩
    obtain ⟨v2, hv2⟩ : ∃ v2, v2 = (doneS (emitS v1 0).2 (gN g)).2 := ⟨_, rfl⟩
    obtain ⟨v4, hv4⟩ : ∃ v4, v4 = loseS (emitS v2 0).2 5 := ⟨_, rfl⟩
    have hq : (emitS v1 0).1.2 = 0 ∧ (emitS v2 0).1.2 ≠ 0 ∧ skFl v4 = 0 ∧ (emitS v4 10).1.2 = 0 ∧ gA (emitS v4 10).1.1 = true ∧ gF (emitS v4 10).1.1 = gF g ∧ gN (emitS v4 10).1.1 = gN g := by
      rw [hv4, hv2, hg, hv1]; exact again_eq k (by omega)
    obtain ⟨q1, q2, q3, q4, q5, q6, q7⟩ := hq
    have i1 : IvS 1 v1 := by rw [hv1]; exact i0.write (by decide) _
    have hN := (emit_went i1 u0 q1).n
    rw [← hg] at hN
    have i1e := i1.emit u0
    have i2 : IvS 1 v2 := by rw [hv2]; exact i1e.done _
    have i2e := i2.emit u0
    have i4 : IvS 1 v4 := by rw [hv4]; exact i2e.lose (U_lit 5)
    have i4e := i4.emit (U_lit 10)
    refine w_call plain_tri (h.le (star_emp _)) fun r w h => ?_
    obtain ⟨hr, h⟩ := h.purP; rw [hr]
    refine w_call (snew_tri 0 plainC) h fun r w h => ?_
    obtain ⟨p, h⟩ := h.exP
    obtain ⟨hr, h⟩ := h.purP; rw [hr]
    have h : Own w0 S R w (sck p (newS 0 1000 100000) ^ emp) := h.fin
    refine w_call awake_tri h fun r w h => ?_
    obtain ⟨hr, h⟩ := h.purP; rw [hr]
    refine w_ite (fun c => (by cases c)) fun _ => ?_
    refine w_call (write_tri p (newS 0 1000 100000) i0.ok.bf _ (by omega)) h fun r w h => ?_
    obtain ⟨_, h⟩ := h.purP
    have h : Own w0 S R w (sck p v1 ^ emp) := by rw [hv1]; exact h.fin
    refine w_join h (fun y : Sl => arr y KS [g] ^ sck p (emitS v2 0).2 ^ emp) (fun _ => True) (fun (y : Sl) w _ h => ?_) ?_
    · have hyl : y.len = 1 := (h.rd (s := y)).2
      refine w_join h (fun _ => arr y KS [g] ^ sck p v4 ^ emp) (fun b : Bool => b = false) (fun (b : Bool) w hb h => ?_) ?_
      · rw [hb]
        refine w_ite (fun c => (by cases c)) fun _ => ?_
        refine w_loopE (fun (_ : Int) (v : Sk) => arr y KS [g] ^ sck p v ^ emp) (fun (i : Int) v => (i = 0 ∧ v = v4) ∨ i = 1) (fun (i : Int) _ => (2 - i).toNat) v4 h (.inl ⟨rfl, rfl⟩) ?_
        rintro K (i : Int) v w hi h k
        rcases hi with ⟨h0, hv⟩ | h0
        · rw [h0]; rw [hv] at h
          refine w_ite (fun _ => ?_) fun c => (by rw [hyl] at c; cases c)
          refine w_call (emit_tri p v4 i4.ok (pcs_lost i4.pc) 10 (U_lit 10)) h fun r w h => ?_
          obtain ⟨hr, h⟩ := h.purP; rw [hr]
          refine w_new h fun n23 w h => w_setAll h (by rfl) fun w h => ?_
          rw [q4]
          refine w_ite (fun c => (by cases c)) fun _ => ?_
          have h : Own w0 S R w (blk n23 (Ks.mk KS (emitS v4 10).1.1) ^ sck p (emitS v4 10).2 ^ arr y KS [g] ^ emp) := h.fin
          refine w_join h (fun _ => blk n23 (Ks.mk KS (emitS v4 10).1.1) ^ sck p (emitS v4 10).2 ^ arr y KS [g] ^ emp) (fun b : Bool => b = false) (fun (b : Bool) w hb h => ?_) ?_
          · rw [hb]
            refine w_ite (fun c => (by cases c)) fun _ => ?_
            refine w_ld (x := gN (emitS v4 10).1.1) h rfl ?_
            refine w_call (SockC.done_tri p (emitS v4 10).2 i4e.ok.out (gN (emitS v4 10).1.1) (by rw [q7]; omega)) h fun r w h => ?_
            obtain ⟨_, h⟩ := h.purP
            exact k 1 (doneS (emitS v4 10).2 (gN (emitS v4 10).1.1)).2 w (.inr rfl) h.fin (by show (2 - (1:Int)).toNat < (2 - i).toNat; rw [h0]; decide)
          · refine w_drw h fun w h => w_ld (x := gA (emitS v4 10).1.1) h rfl ?_
            rw [q5]
            refine w_ite (fun c => (by cases c)) fun _ => ?_
            refine w_ld (x := gF (emitS v4 10).1.1) h rfl (w_idx (s := y) h (by decide) (by show 0 < 1; decide) (w_ldA h y 0 1 g rfl rfl (by decide) rfl ?_))
            rw [q6]
            refine w_ite (fun c => (by simp at c)) fun _ => ?_
            refine w_ld (x := gN (emitS v4 10).1.1) h rfl (w_idx (s := y) h (by decide) (by show 0 < 1; decide) (w_ldA h y 0 2 g rfl rfl (by decide) rfl ?_))
            rw [q7]
            exact ⟨by simp, h.fin⟩
        · rw [h0]
          refine w_ite (fun c => (by rw [hyl] at c; cases c)) fun _ => ?_
          exact Own.retP rfl h.emp'
      · refine w_ite (fun c => (by rw [hyl] at c; cases c)) fun _ => ?_
        refine w_call (slose_tri p (emitS v2 0).2 i2e.ok 5 (U_lit 5)) h fun r w h => ?_
        obtain ⟨hr, h⟩ := h.purP; rw [hr]
        rw [← hv4] at h
        refine w_ite (fun c => (by cases c)) fun _ => ?_
        refine w_call (SockC.flight_tri p v4 i4.bl) h fun r w h => ?_
        obtain ⟨hr, h⟩ := h.purP; rw [hr, q3]
        exact ⟨rfl, h.fin⟩
    · have h := h.nil KS
      have h : Own w0 S R w (arr ⟨none, 0, 0⟩ KS [] ^ sck p v1 ^ emp) := h
      refine w_loopE (fun (y : Sl × Int) (a : Sk × List Sg) => arr y.1 KS a.2 ^ sck p a.1 ^ emp) (fun (y : Sl × Int) a => (y.2 = 0 ∧ a = (v1, [])) ∨ (y.2 = 1 ∧ a = (v2, [g]))) (fun (y : Sl × Int) _ => (2 - y.2).toNat) (v1, []) h (.inl ⟨rfl, rfl⟩) ?_
      rintro K (y : Sl × Int) a w hy h k
      obtain ⟨y1, y2⟩ := y
      dsimp only at hy ⊢
      rcases hy with ⟨h2, hv⟩ | ⟨h2, hv⟩
      · rw [h2]; rw [hv] at h
        dsimp only at h
        refine w_ite (fun _ => ?_) fun c => (by cases c)
        refine w_call (emit_tri p v1 i1.ok (pcs_lost i1.pc) 0 u0) h fun r w h => ?_
        obtain ⟨hr, h⟩ := h.purP; rw [hr]
        refine w_new h fun n10 w h => w_setAll h (by rfl) fun w h => ?_
        rw [q1]
        refine w_ite (fun c => (by cases c)) fun _ => ?_
        rw [← hg] at h
        refine w_ldAll (b := n10) (x := g) h rfl (w_new h fun n12 w h => ?_)
        have h := h.blkArr n12 KS [g] rfl (by simp)
        have h : Own w0 S R w (arr ⟨some ⟨n12, 0⟩, 1, 1⟩ KS [g] ^ _) := h
        refine w_app (s := y1) (xs := ([] : List (Ks.T KS))) h rfl (by simp) fun s' w _ h => ?_
        refine w_ld (x := gN g) h rfl ?_
        refine w_call (SockC.done_tri p (emitS v1 0).2 i1e.ok.out (gN g) (by omega)) h fun r w h => ?_
        obtain ⟨_, h⟩ := h.purP
        rw [← hv2, List.nil_append] at h
        have h : Own w0 S R w (arr s' KS [g] ^ sck p v2 ^ emp) := h.fin
        exact k (s', 1) (v2, [g]) w (.inr ⟨rfl, rfl⟩) h (by show (2 - (1:Int)).toNat < (2 - y2).toNat; rw [h2]; decide)
      · rw [h2]; rw [hv] at h
        dsimp only at h
        refine w_ite (fun _ => ?_) fun c => (by cases c)
        refine w_call (emit_tri p v2 i2.ok (pcs_lost i2.pc) 0 u0) h fun r w h => ?_
        obtain ⟨hr, h⟩ := h.purP; rw [hr]
        refine w_new h fun n10 w h => w_setAll h (by rfl) fun w h => ?_
        refine w_ite (fun _ => ?_) fun c => ?_
        · exact ⟨trivial, h.fin⟩
        · have c : (emitS v2 0).1.2 = 0 := by simpa using c
          exact absurd c q2
end SockT


end Go.X
