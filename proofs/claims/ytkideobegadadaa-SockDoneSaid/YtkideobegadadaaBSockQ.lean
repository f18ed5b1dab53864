/- Contracts and plain facts: SockP SockQ. -/
import Derived.Test.YtkideobegadadaaBArith
import Derived.Test.YtkideobegadadaaBDelays
import Derived.Test.YtkideobegadadaaBTarget
import Derived.Test.YtkideobegadadaaBBbrMm
import Derived.Test.YtkideobegadadaaBBbrQ
import Derived.Test.YtkideobegadadaaBSockA
import Derived.Test.YtkideobegadadaaBSockM
import Derived.Test.YtkideobegadadaaBSockD
import Derived.Test.YtkideobegadadaaBSockF
import Derived.Test.YtkideobegadadaaBSockH
import Derived.Test.YtkideobegadadaaBSockK
import Derived.Test.YtkideobegadadaaBSockO
import Derived.Test.YtkideobegadadaaXw
import Derived.Test.YtkideobegadadaaK
import Derived.Test.YtkideobegadadaaF0
set_option linter.unusedVariables false
set_option linter.unusedSimpArgs false
set_option linter.unusedSectionVars false
namespace Go.X
open Go.Proofs
namespace SockP
open Arith ArithC Delays Board BbrM BbrMm SockA SockB SockM SockC SockD SockE SockF SockG SockH SockJ SockK SockL SockO
/-! ### Awake, and a nil socket -/
abbrev plainC : Ks.T KCf := (3000, 15000, 100, 50, 10000000000, 0, false, 100000, 1000)
theorem plain_tri : Tri Try.prog N_canterref20_Plain [] [.agg KCf] emp (fun r => pur (r = plainC) emp) :=
  tri_0 call_canterref20_Plain fun w0 S R h => by
    unfold W_canterref20_Plain
    refine w_new h fun n1 w h => w_setAll h (by rfl) fun w h => w_ldAll (b := n1) (x := plainC) h rfl ?_
    exact Own.retP rfl h.emp'
abbrev aw0 : Sk := newS 1 1000 100000
abbrev aw1 : Sk := (writeS aw0 100).2
theorem awake_eq : (writeS aw0 100).1 = 0 ∧ (emitS aw1 5).1 = ((1, 0, 100, 5, false), 0) ∧ (emitS aw1 5).2.out = 100 ∧ skFl (emitS aw1 5).2 = 100 := by decide +kernel
theorem cap_plain : (0:Int) ≤ 100000 ∧ (100000:Int) ≤ 1073741824 := by decide
theorem aw0_inv : IvS 0 aw0 := new_inv 1 1000 100000 cap_plain
theorem aw1_inv : IvS 1 aw1 := aw0_inv.write (by decide) 100
theorem awake_tri : Tri Try.prog N_canterlaw25_awake [] [.lf .bool] emp (fun r => pur (r = true) emp) :=
  tri_0 call_canterlaw25_awake fun w0 S R h => by
    unfold W_canterlaw25_awake
    obtain ⟨h1, h2, h3, h4⟩ := awake_eq
    refine w_call plain_tri (h.le (star_emp _)) fun r w h => ?_
    obtain ⟨hr, h⟩ := h.purP; rw [hr]
    refine w_call (snew_tri 1 plainC) h fun r w h => ?_
    obtain ⟨p, h⟩ := h.exP
    obtain ⟨hr, h⟩ := h.purP; rw [hr]
    have h : Own w0 S R w (sck p aw0 ^ emp) := h.fin
    refine w_join h (fun _ => sck p aw1) (fun _ => True) (fun _ w _ h => ?_) ?_
    · refine w_call (emit_tri p aw1 aw1_inv.ok (pcs_lost aw1_inv.pc) 5 (U_lit 5)) h fun r w h => ?_
      obtain ⟨hr, h⟩ := h.purP; rw [hr, h2]
      refine w_new h fun n w h => w_setAll h (by rfl) fun w h => w_ite (fun _ => ?_) fun c => (by cases c)
      refine w_ldAll (b := n) (x := ((1, 0, 100, 5, false) : Sg)) h rfl (w_ite (fun _ => ?_) fun c => (by cases c))
      refine w_call (out_tri p (emitS aw1 5).2) h fun r w h => ?_
      obtain ⟨hr, h⟩ := h.purP; rw [hr, h3]
      refine w_ite (fun _ => ?_) fun c => (by cases c)
      refine w_call (SockC.flight_tri p (emitS aw1 5).2 (aw1_inv.emit (U_lit 5)).bl) h fun r w h => ?_
      obtain ⟨hr, h⟩ := h.purP; rw [hr, h4]
      exact Own.retP rfl h.emp'
    · refine w_ite (fun c => (by simp at c)) fun _ => ?_
      refine w_call (write_tri p aw0 aw0_inv.ok.bf 100 (by decide)) h fun r w h => ?_
      obtain ⟨hr, h⟩ := h.purP; rw [hr, h1]
      refine w_ite (fun c => (by cases c)) fun _ => ?_
      exact ⟨trivial, h.fin⟩
end SockP

namespace SockQ
open Arith ArithC Delays Board BbrM BbrMm SockA SockB SockM SockC SockD SockE SockF SockG SockH SockJ SockL SockO
/-! ### What is under way, and what an emission does -/
def flS : List Pc → Int
  | [] => 0
  | p :: l => (if flyP p then pTo p - pFrom p else 0) + flS l
theorem flS_fold : ∀ (l : List Pc), OkPcs l → ∀ (n : Int), 0 ≤ n → n + 65536 * (l.length : Int) < 18446744073709551616 → l.foldl addF n = n + flS l
  | [], _, n, _, _ => by show n = n + 0; omega
  | p :: l, h, n, h0, h1 => by
    have hp := h p (List.mem_cons_self ..)
    have a1 := hp.ft
    have a2 := hp.le
    rw [List.length_cons] at h1
    have e : addF n p = n + (if flyP p then pTo p - pFrom p else 0) := by
      unfold addF
      split
      · rw [wu (n := pTo p - pFrom p) (by omega) (by omega)]
        exact wu (by omega) (by omega)
      · omega
    have hb : 0 ≤ (if flyP p = true then pTo p - pFrom p else 0) ∧ (if flyP p = true then pTo p - pFrom p else 0) ≤ 65536 := by split <;> omega
    rw [List.foldl_cons, flS_fold l (fun q hq => h q (List.mem_cons_of_mem _ hq)) _ (by rw [e]; omega) (by rw [e]; omega), e, flS]
    omega
theorem flight_eq {l : List Pc} (h : OkPcs l) (hl : l.length ≤ 4096) : flightF l = flS l := by
  have := flS_fold l h 0 (by decide) (by omega)
  rw [flightF, this]; omega
theorem flS_app : ∀ (l m : List Pc), flS (l ++ m) = flS l + flS m
  | [], m => by show flS m = 0 + flS m; omega
  | p :: l, m => by show _ + flS (l ++ m) = _ + flS l + flS m; rw [flS_app l m]; omega
theorem flS_set : ∀ {l : List Pc} {i : Nat} {p : Pc} (q : Pc), l[i]? = some p → flS (l.set i q) = flS l - (if flyP p then pTo p - pFrom p else 0) + (if flyP q then pTo q - pFrom q else 0)
  | [], i, p, q, h => by cases h
  | a :: l, 0, p, q, h => by
    cases h
    show _ + flS l = (_ + flS l) - _ + _
    omega
  | a :: l, i + 1, p, q, h => by
    have := flS_set (l := l) (i := i) (p := p) q (by simpa using h)
    show _ + flS (l.set i q) = (_ + flS l) - _ + _
    rw [this]
    omega
theorem fI_some {α : Type} {f : α → Bool} {xs : List α} (h : ¬ fI f xs < 0) : ∃ x, xs[(fI f xs).toNat]? = some x ∧ f x = true := by
  unfold fI at h ⊢
  split at h
  · rename_i i hi
    obtain ⟨hl, hp, _⟩ := List.findIdx?_eq_some_iff_getElem.1 hi
    exact ⟨xs[i], by simp [List.getElem?_eq_getElem hl], hp⟩
  · exact absurd (by decide : (-1 : Int) < 0) h
/-- The first lost one, and the board with it under way again. -/
theorem lost_at {l : List Pc} (h : (lostF l).2 = true) : ∃ i p, l[i]? = some p ∧ pLo p = true ∧ (lostF l).1 = (pFrom p, pTo p) ∧ ∀ s, againF l s = l.set i (againP p s) := by
  have hi : ¬ fI pLo l < 0 := fun hc => by rw [lostF_no hc] at h; cases h
  obtain ⟨p, hp, hl⟩ := fI_some hi
  refine ⟨(fI pLo l).toNat, p, hp, hl, ?_, fun s => ?_⟩
  · unfold lostF; rw [hp]; dsimp only; rw [if_neg hi]
  · unfold againF; rw [hp]; dsimp only; rw [if_neg hi]
theorem again_fl {l : List Pc} (hl : OkPcs l) (h : (lostF l).2 = true) (s : Snt) : flS (againF l s) = flS l + ((lostF l).1.2 - (lostF l).1.1) ∧ 1 ≤ (lostF l).1.2 - (lostF l).1.1 := by
  obtain ⟨i, p, hp, hlo, e1, e2⟩ := lost_at h
  have ho := hl p (List.mem_of_getElem? hp)
  have hsk := ho.x hlo
  have h1 := ho.ft
  have f1 : flyP p = false := by unfold flyP; rw [hlo]; simp
  have f2 : flyP (againP p s) = true := by
    show (!(pSk p) && !false) = true
    rw [hsk]; rfl
  rw [e2, flS_set _ hp, e1, f1, f2]
  refine ⟨?_, by show 1 ≤ pTo p - pFrom p; omega⟩
  show flS l - 0 + (pTo p - pFrom p) = flS l + (pTo p - pFrom p)
  omega
theorem may_yes {v : Sk} (h : (mayS v).1 = 0) : skFl v < v.md.win ∧ v.out < belowF v.md.rate (skTso v) v.cap := by
  unfold mayS at h
  split at h
  · cases h
  · split at h
    · cases h
    · rename_i c; exact Classical.not_not.1 c
structure SameB (v' v : Sk) : Prop where
  id : v'.id = v.id
  mss : v'.mss = v.mss
  cap : v'.cap = v.cap
  bf : v'.bf = v.bf
  bd : v'.bd = v.bd
  md : v'.md = v.md
  out : v'.out = v.out
  nx : v'.nx = v.nx
theorem may_same (v : Sk) : SameB (mayS v).2 v := by
  unfold mayS
  split
  · dsimp only; split <;> exact ⟨rfl, rfl, rfl, rfl, rfl, rfl, rfl, rfl⟩
  · split
    · exact ⟨rfl, rfl, rfl, rfl, rfl, rfl, rfl, rfl⟩
    · split <;> exact ⟨rfl, rfl, rfl, rfl, rfl, rfl, rfl, rfl⟩
theorem emit_no {v : Sk} {now : Int} (h : (emitS v now).1.2 ≠ 0) : (emitS v now).1.1 = noS ∧ SameB (emitS v now).2 v ∧ (emitS v now).1.2 = (mayS v).1 := by
  by_cases hm : (mayS v).1 = 0
  · exfalso; apply h; unfold emitS; rw [if_neg (fun c => c hm)]
  · unfold emitS; rw [if_pos hm]; exact ⟨rfl, may_same v, rfl⟩
theorem emit_yes {v : Sk} {now : Int} (h : (emitS v now).1.2 = 0) : (mayS v).1 = 0 := by
  by_cases hm : (mayS v).1 = 0
  · exact hm
  · unfold emitS at h; rw [if_pos hm] at h; exact h
/-- The segments' lengths and places. -/
abbrev gN (g : Sg) : Int := g.2.2.1
abbrev gF (g : Sg) : Int := g.2.1
abbrev gS (g : Sg) : Int := g.2.2.2.1
abbrev gA (g : Sg) : Bool := g.2.2.2.2
structure Went (v : Sk) (now : Int) (g : Sg) (v' : Sk) : Prop where
  n : 1 ≤ gN g ∧ gN g ≤ 65536
  id : g.1 = v.id
  st : gS g = if v.nx > now then v.nx else now
  out : v'.out = v.out + gN g
  fl : skFl v' = skFl v + gN g
  win : skFl v < v.md.win
  lim : v.out < belowF v.md.rate (skTso v) v.cap
  md : v'.md = v.md
  kid : v'.id = v.id
  mss : v'.mss = v.mss
  cap : v'.cap = v.cap
  nx : v'.nx = addI (gS g) (delayI (gN g) v.md.rate)
  new : gA g = false → gF g = bN v.bf ∧ v'.bf = (bW v.bf, bN v.bf + gN g, bU v.bf, bL v.bf) ∧ (lostF v.bd.1).2 = false ∧ gN g = cutN v ∧ v'.bd = (v.bd.1 ++ [mkPc (gF g) (gF g + gN g) (sentP v.sp now (skFl v)).1], gF g + gN g)
  old : gA g = true → v'.bf = v.bf ∧ lostF v.bd.1 = ((gF g, gF g + gN g), true) ∧ v'.bd = (againF v.bd.1 (sentP v.sp now (skFl v)).1, v.bd.2)
theorem emit_went {k : Int} {v : Sk} (h : IvS k v) {now : Int} (hn : U now) (he : (emitS v now).1.2 = 0) : Went v now (emitS v now).1.1 (emitS v now).2 := by
  have hm := emit_yes he
  obtain ⟨m1, m2⟩ := may_yes hm
  have hbl := h.ok.bl
  have e : emitS v now = (((goS v now).1, 0), (goS v now).2) := by unfold emitS; rw [if_neg (fun c => c hm)]
  rw [e]
  dsimp only
  cases hl : (lostF v.bd.1).2 with
  | true =>
    have hp := oldP_inv h hn
    obtain ⟨f1, f2⟩ := again_fl h.pc hl (sentP v.sp now (skFl v)).1
    obtain ⟨_, f3⟩ := pcs_lost h.pc hl
    rw [go_old v now hl]
    have hF : skFl (oldP v now) = skFl v + ((lostF v.bd.1).1.2 - (lostF v.bd.1).1.1) := by
      show flightF (againF v.bd.1 _) = flightF v.bd.1 + _
      rw [flight_eq hp.pc hp.ok.bl, flight_eq h.pc h.ok.bl]
      exact f1
    exact ⟨⟨f2, f3⟩, rfl, rfl, rfl, hF, m1, m2, rfl, rfl, rfl, rfl, rfl, fun c => (by cases c), fun _ => ⟨rfl, by
      show lostF v.bd.1 = (((lostF v.bd.1).1.1, (lostF v.bd.1).1.1 + ((lostF v.bd.1).1.2 - (lostF v.bd.1).1.1)), true)
      rw [show (lostF v.bd.1).1.1 + ((lostF v.bd.1).1.2 - (lostF v.bd.1).1.1) = (lostF v.bd.1).1.2 by omega]
      exact Prod.ext rfl hl, rfl⟩⟩
  | false =>
    obtain ⟨g1, g2⟩ := may_go hm hl
    have hc := cut_r h g1
    have hp := newP_inv h hn hm hl
    rw [go_new h now hm hl]
    have hw : bN v.bf + cutN v - bN v.bf = cutN v := by omega
    have hF : skFl (newP v now) = skFl v + (bN v.bf + cutN v - bN v.bf) := by
      show flightF (v.bd.1 ++ [_]) = flightF v.bd.1 + _
      rw [flight_eq hp.pc hp.ok.bl, flight_eq h.pc h.ok.bl, flS_app]
      show _ + (bN v.bf + cutN v - bN v.bf + 0) = _
      omega
    refine ⟨⟨by show 1 ≤ bN v.bf + cutN v - bN v.bf; omega, by show bN v.bf + cutN v - bN v.bf ≤ 65536; omega⟩, rfl, rfl, rfl, hF, m1, m2, rfl, rfl, rfl, rfl, rfl, fun _ => ⟨rfl, ?_, hl, hw, ?_⟩, fun c => (by cases c)⟩
    · show (bW v.bf, bN v.bf + cutN v, bU v.bf, bL v.bf) = (bW v.bf, bN v.bf + (bN v.bf + cutN v - bN v.bf), bU v.bf, bL v.bf)
      rw [hw]
    · show (v.bd.1 ++ [mkPc (bN v.bf) (bN v.bf + cutN v) _], bN v.bf + cutN v) = (v.bd.1 ++ [mkPc (bN v.bf) (bN v.bf + (bN v.bf + cutN v - bN v.bf)) _], bN v.bf + (bN v.bf + cutN v - bN v.bf))
      rw [hw]
end SockQ


end Go.X
