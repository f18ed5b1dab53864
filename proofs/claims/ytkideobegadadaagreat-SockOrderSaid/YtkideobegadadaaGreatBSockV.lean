/- Contracts and plain facts: SockQ SockV. -/
import Derived.Test.YtkideobegadadaaGreatBArith
import Derived.Test.YtkideobegadadaaGreatBWf
import Derived.Test.YtkideobegadadaaGreatBDelays
import Derived.Test.YtkideobegadadaaGreatBTarget
import Derived.Test.YtkideobegadadaaGreatBBbrMm
import Derived.Test.YtkideobegadadaaGreatBBbrP
import Derived.Test.YtkideobegadadaaGreatBBbrQ
import Derived.Test.YtkideobegadadaaGreatBBbrN
import Derived.Test.YtkideobegadadaaGreatBBbrU
import Derived.Test.YtkideobegadadaaGreatBSockB
import Derived.Test.YtkideobegadadaaGreatBSockC
import Derived.Test.YtkideobegadadaaGreatBSockE
import Derived.Test.YtkideobegadadaaGreatBSockG
import Derived.Test.YtkideobegadadaaGreatBSockI
import Derived.Test.YtkideobegadadaaGreatBSockK
import Derived.Test.YtkideobegadadaaGreatBSockN
import Derived.Test.YtkideobegadadaaGreatBSockP
import Derived.Test.YtkideobegadadaaGreatBBbrG
import Derived.Test.YtkideobegadadaaGreatXw
import Derived.Test.YtkideobegadadaaGreatK
import Derived.Test.YtkideobegadadaaGreatF0
import Derived.Test.YtkideobegadadaaGreatF1
set_option linter.unusedVariables false
set_option linter.unusedSimpArgs false
set_option linter.unusedSectionVars false
namespace Go.X
open Go.Proofs
namespace SockQ
open Arith ArithC Delays Board BbrM BbrMm SockA SockB SockM SockC SockD SockE SockF SockG SockH SockI SockJ SockL SockO
/-! ### What is under way, and what an emission does -/
def flS : List Pc → Int
  | [] => 0
  | p :: l => (if flyP p then pTo p - pFrom p else 0) + flS l
theorem flS_fold : ∀ (l : List Pc), OkPcs l → ∀ (n : Int), 0 ≤ n → n + 65536 * (l.length : Int) < 18446744073709551616 → l.foldl addF n = n + flS l
  | [], _, n, _, _ => by show n = n + 0; omega
  | p :: l, h, n, h0, h1 => by
    have hp := h p (List.mem_cons_self ..)
    have a1 := hp.ft
    have a2 := hp.le
    rw [List.length_cons] at h1
    have e : addF n p = n + (if flyP p then pTo p - pFrom p else 0) := by
      unfold addF
      split
      · rw [wu (n := pTo p - pFrom p) (by omega) (by omega)]
        exact wu (by omega) (by omega)
      · omega
    have hb : 0 ≤ (if flyP p = true then pTo p - pFrom p else 0) ∧ (if flyP p = true then pTo p - pFrom p else 0) ≤ 65536 := by split <;> omega
    rw [List.foldl_cons, flS_fold l (fun q hq => h q (List.mem_cons_of_mem _ hq)) _ (by rw [e]; omega) (by rw [e]; omega), e, flS]
    omega
theorem flight_eq {l : List Pc} (h : OkPcs l) (hl : l.length ≤ 4096) : flightF l = flS l := by
  have := flS_fold l h 0 (by decide) (by omega)
  rw [flightF, this]; omega
theorem flS_app : ∀ (l m : List Pc), flS (l ++ m) = flS l + flS m
  | [], m => by show flS m = 0 + flS m; omega
  | p :: l, m => by show _ + flS (l ++ m) = _ + flS l + flS m; rw [flS_app l m]; omega
theorem flS_r : ∀ {l : List Pc}, OkPcs l → 0 ≤ flS l ∧ flS l ≤ 65536 * (l.length : Int)
  | [], _ => by show (0:Int) ≤ 0 ∧ (0:Int) ≤ 65536 * (0:Nat); omega
  | p :: l, h => by
    have hp := h p (List.mem_cons_self ..)
    have a1 := hp.ft
    have a2 := hp.le
    have := flS_r (l := l) (fun q hq => h q (List.mem_cons_of_mem _ hq))
    have hb : 0 ≤ (if flyP p = true then pTo p - pFrom p else 0) ∧ (if flyP p = true then pTo p - pFrom p else 0) ≤ 65536 := by split <;> omega
    rw [List.length_cons, flS]
    omega
theorem flS_set : ∀ {l : List Pc} {i : Nat} {p : Pc} (q : Pc), l[i]? = some p → flS (l.set i q) = flS l - (if flyP p then pTo p - pFrom p else 0) + (if flyP q then pTo q - pFrom q else 0)
  | [], i, p, q, h => by cases h
  | a :: l, 0, p, q, h => by
    cases h
    show _ + flS l = (_ + flS l) - _ + _
    omega
  | a :: l, i + 1, p, q, h => by
    have := flS_set (l := l) (i := i) (p := p) q (by simpa using h)
    show _ + flS (l.set i q) = (_ + flS l) - _ + _
    rw [this]
    omega
theorem fI_some {α : Type} {f : α → Bool} {xs : List α} (h : ¬ fI f xs < 0) : ∃ x, xs[(fI f xs).toNat]? = some x ∧ f x = true := by
  unfold fI at h ⊢
  split at h
  · rename_i i hi
    obtain ⟨hl, hp, _⟩ := List.findIdx?_eq_some_iff_getElem.1 hi
    exact ⟨xs[i], by simp [List.getElem?_eq_getElem hl], hp⟩
  · exact absurd (by decide : (-1 : Int) < 0) h
/-- The first lost one, and the board with it under way again. -/
theorem lost_at {l : List Pc} (h : (lostF l).2 = true) : ∃ i p, l[i]? = some p ∧ pLo p = true ∧ (lostF l).1 = (pFrom p, pTo p) ∧ ∀ s, againF l s = l.set i (againP p s) := by
  have hi : ¬ fI pLo l < 0 := fun hc => by rw [lostF_no hc] at h; cases h
  obtain ⟨p, hp, hl⟩ := fI_some hi
  refine ⟨(fI pLo l).toNat, p, hp, hl, ?_, fun s => ?_⟩
  · unfold lostF; rw [hp]; dsimp only; rw [if_neg hi]
  · unfold againF; rw [hp]; dsimp only; rw [if_neg hi]
theorem again_fl {l : List Pc} (hl : OkPcs l) (h : (lostF l).2 = true) (s : Snt) : flS (againF l s) = flS l + ((lostF l).1.2 - (lostF l).1.1) ∧ 1 ≤ (lostF l).1.2 - (lostF l).1.1 := by
  obtain ⟨i, p, hp, hlo, e1, e2⟩ := lost_at h
  have ho := hl p (List.mem_of_getElem? hp)
  have hsk := ho.x hlo
  have h1 := ho.ft
  have f1 : flyP p = false := by unfold flyP; rw [hlo]; simp
  have f2 : flyP (againP p s) = true := by
    show (!(pSk p) && !false) = true
    rw [hsk]; rfl
  rw [e2, flS_set _ hp, e1, f1, f2]
  refine ⟨?_, by show 1 ≤ pTo p - pFrom p; omega⟩
  show flS l - 0 + (pTo p - pFrom p) = flS l + (pTo p - pFrom p)
  omega
theorem may_yes {v : Sk} (h : (mayS v).1 = 0) : skFl v < v.md.win ∧ v.out < belowF v.md.rate (skTso v) v.cap := by
  unfold mayS at h
  split at h
  · cases h
  · split at h
    · cases h
    · rename_i c; exact Classical.not_not.1 c
structure SameB (v' v : Sk) : Prop where
  id : v'.id = v.id
  mss : v'.mss = v.mss
  cap : v'.cap = v.cap
  bf : v'.bf = v.bf
  bd : v'.bd = v.bd
  md : v'.md = v.md
  out : v'.out = v.out
  nx : v'.nx = v.nx
theorem may_same (v : Sk) : SameB (mayS v).2 v := by
  unfold mayS
  split
  · dsimp only; split <;> exact ⟨rfl, rfl, rfl, rfl, rfl, rfl, rfl, rfl⟩
  · split
    · exact ⟨rfl, rfl, rfl, rfl, rfl, rfl, rfl, rfl⟩
    · split <;> exact ⟨rfl, rfl, rfl, rfl, rfl, rfl, rfl, rfl⟩
theorem emit_no {v : Sk} {now : Int} (h : (emitS v now).1.2 ≠ 0) : (emitS v now).1.1 = noS ∧ SameB (emitS v now).2 v ∧ (emitS v now).1.2 = (mayS v).1 := by
  by_cases hm : (mayS v).1 = 0
  · exfalso; apply h; unfold emitS; rw [if_neg (fun c => c hm)]
  · unfold emitS; rw [if_pos hm]; exact ⟨rfl, may_same v, rfl⟩
theorem emit_yes {v : Sk} {now : Int} (h : (emitS v now).1.2 = 0) : (mayS v).1 = 0 := by
  by_cases hm : (mayS v).1 = 0
  · exact hm
  · unfold emitS at h; rw [if_pos hm] at h; exact h
/-- The segments' lengths and places. -/
abbrev gN (g : Sg) : Int := g.2.2.1
abbrev gF (g : Sg) : Int := g.2.1
abbrev gS (g : Sg) : Int := g.2.2.2.1
abbrev gA (g : Sg) : Bool := g.2.2.2.2
structure Went (v : Sk) (now : Int) (g : Sg) (v' : Sk) : Prop where
  n : 1 ≤ gN g ∧ gN g ≤ 65536
  id : g.1 = v.id
  st : gS g = if v.nx > now then v.nx else now
  out : v'.out = v.out + gN g
  fl : skFl v' = skFl v + gN g
  win : skFl v < v.md.win
  lim : v.out < belowF v.md.rate (skTso v) v.cap
  md : v'.md = v.md
  kid : v'.id = v.id
  mss : v'.mss = v.mss
  cap : v'.cap = v.cap
  nx : v'.nx = addI (gS g) (delayI (gN g) v.md.rate)
  new : gA g = false → gF g = bN v.bf ∧ v'.bf = (bW v.bf, bN v.bf + gN g, bU v.bf, bL v.bf) ∧ (lostF v.bd.1).2 = false ∧ gN g = cutN v ∧ v'.bd = (v.bd.1 ++ [mkPc (gF g) (gF g + gN g) (sentP v.sp now (skFl v)).1], gF g + gN g)
  old : gA g = true → v'.bf = v.bf ∧ lostF v.bd.1 = ((gF g, gF g + gN g), true) ∧ v'.bd = (againF v.bd.1 (sentP v.sp now (skFl v)).1, v.bd.2)
theorem emit_went {k : Int} {v : Sk} (h : IvS k v) {now : Int} (hn : U now) (he : (emitS v now).1.2 = 0) : Went v now (emitS v now).1.1 (emitS v now).2 := by
  have hm := emit_yes he
  obtain ⟨m1, m2⟩ := may_yes hm
  have hbl := h.ok.bl
  have e : emitS v now = (((goS v now).1, 0), (goS v now).2) := by unfold emitS; rw [if_neg (fun c => c hm)]
  rw [e]
  dsimp only
  cases hl : (lostF v.bd.1).2 with
  | true =>
    have hp := oldP_inv h hn
    obtain ⟨f1, f2⟩ := again_fl h.pc hl (sentP v.sp now (skFl v)).1
    obtain ⟨_, f3⟩ := pcs_lost h.pc hl
    rw [go_old v now hl]
    have hF : skFl (oldP v now) = skFl v + ((lostF v.bd.1).1.2 - (lostF v.bd.1).1.1) := by
      show flightF (againF v.bd.1 _) = flightF v.bd.1 + _
      rw [flight_eq hp.pc hp.ok.bl, flight_eq h.pc h.ok.bl]
      exact f1
    exact ⟨⟨f2, f3⟩, rfl, rfl, rfl, hF, m1, m2, rfl, rfl, rfl, rfl, rfl, fun c => (by cases c), fun _ => ⟨rfl, by
      show lostF v.bd.1 = (((lostF v.bd.1).1.1, (lostF v.bd.1).1.1 + ((lostF v.bd.1).1.2 - (lostF v.bd.1).1.1)), true)
      rw [show (lostF v.bd.1).1.1 + ((lostF v.bd.1).1.2 - (lostF v.bd.1).1.1) = (lostF v.bd.1).1.2 by omega]
      exact Prod.ext rfl hl, rfl⟩⟩
  | false =>
    obtain ⟨g1, g2⟩ := may_go hm hl
    have hc := cut_r h g1
    have hp := newP_inv h hn hm hl
    rw [go_new h now hm hl]
    have hw : bN v.bf + cutN v - bN v.bf = cutN v := by omega
    have hF : skFl (newP v now) = skFl v + (bN v.bf + cutN v - bN v.bf) := by
      show flightF (v.bd.1 ++ [_]) = flightF v.bd.1 + _
      rw [flight_eq hp.pc hp.ok.bl, flight_eq h.pc h.ok.bl, flS_app]
      show _ + (bN v.bf + cutN v - bN v.bf + 0) = _
      omega
    refine ⟨⟨by show 1 ≤ bN v.bf + cutN v - bN v.bf; omega, by show bN v.bf + cutN v - bN v.bf ≤ 65536; omega⟩, rfl, rfl, rfl, hF, m1, m2, rfl, rfl, rfl, rfl, rfl, fun _ => ⟨rfl, ?_, hl, hw, ?_⟩, fun c => (by cases c)⟩
    · show (bW v.bf, bN v.bf + cutN v, bU v.bf, bL v.bf) = (bW v.bf, bN v.bf + (bN v.bf + cutN v - bN v.bf), bU v.bf, bL v.bf)
      rw [hw]
    · show (v.bd.1 ++ [mkPc (bN v.bf) (bN v.bf + cutN v) _], bN v.bf + cutN v) = (v.bd.1 ++ [mkPc (bN v.bf) (bN v.bf + (bN v.bf + cutN v - bN v.bf)) _], bN v.bf + (bN v.bf + cutN v - bN v.bf))
      rw [hw]
end SockQ

namespace SockV
open Arith ArithC Delays Board BbrM BbrMm SockA SockB SockM SockC SockD SockE SockF SockG SockH SockI SockJ SockK SockL SockN SockO SockP SockQ
/-! ### Rows of deeds, and what the laws call -/
theorem rgi_in_tri (s : Sl) (x : Ks.T KR) (xs : List (Ks.T KR)) (hl : xs.length ≤ 4294967296) :
    Tri Tryz.prog N_canterhelp_In_apiRange [.lf (.sl s), .agg (Ks.mk KR x)] [.lf .bool] (emp ^ rarr s KR xs) (fun r => pur ((r = true) ↔ x ∈ xs) emp) :=
  tri_0 (call_canterhelp_In_apiRange _ _) fun w S R h => by
    unfold W_canterhelp_In_apiRange
    have hs := (h.drop.rd (s := s)).2
    refine w_new h fun n1 w h => ?_
    refine w_loop (fun _ => blk n1 (Ks.mk KR x) ^ rarr s KR xs) (fun (i : Int) => 0 ≤ i ∧ i.toNat ≤ xs.length ∧ (x ∈ xs ↔ x ∈ xs.drop i.toNat)) (fun (i : Int) => xs.length - i.toNat) h.fin ⟨Int.le_refl 0, Nat.zero_le _, Iff.rfl⟩ ?_
    rintro (i : Int) w ⟨h0, h1, h2⟩ h
    refine w_ite (fun c2 => ?_) fun c2 => ?_
    · have hi : i.toNat < xs.length := by simp at c2; omega
      refine w_drw h fun w h => ?_; refine w_ldAll h rfl ?_; refine w_idx h h0 hi ?_; refine w_ldE h s i.toNat (at_some hi) rfl ?_
      rw [List.drop_eq_getElem_cons hi, List.mem_cons] at h2
      refine w_ite (fun c3 => ?_) fun c3 => ?_
      · have c3 : xs[i.toNat] = x := by simpa [Prod.ext_iff] using c3
        exact Own.retP ⟨fun _ => h2.2 (.inl c3.symm), fun _ => rfl⟩ h.emp'
      · have c3 : ¬ xs[i.toNat] = x := by simpa [Prod.ext_iff] using c3
        have e : (i + 1).toNat = i.toNat + 1 := by omega
        rw [wi (by omega) (by omega)]
        exact ⟨⟨⟨by show (0 : Int) ≤ i + 1; omega, by show (i + 1).toNat ≤ _; omega, by show _ ↔ x ∈ xs.drop (i + 1).toNat; rw [e, h2]; exact ⟨fun h => h.elim (fun h => absurd h.symm c3) id, .inr⟩⟩, h.fin⟩, by show _ - (i + 1).toNat < _; omega⟩
    · have hi : i.toNat = xs.length := by simp at c2; omega
      rw [hi, List.drop_length] at h2
      exact Own.retP ⟨fun h => (by cases h), fun h => (by simp at h2; exact absurd h h2)⟩ h.emp'

abbrev KO : Ks := [.int .i64, .int .i64, .int .u64, .int .u64, .sl]
abbrev DO := Ks.T KO
abbrev oK (d : DO) : Int := d.1
abbrev oN (d : DO) : Int := d.2.1
abbrev oG (d : DO) : Int := d.2.2.1
abbrev oU (d : DO) : Int := d.2.2.2.1
abbrev oS (d : DO) : Sl := d.2.2.2.2
abbrev OpS := DO × List (Ks.T KR)
def opSk (d : Sl) (ps : List OpS) : SP := rarr d KO (ps.map Prod.fst) ^ rl (fun p : OpS => rarr (oS p.1) KR p.2) ps
structure OkO (p : OpS) : Prop where
  n : oN p.1 < 9223372036854775808
  g : U (oG p.1)
  u : U (oU p.1)
theorem okO_of {p : OpS} (h : ∀ k n, Lf.int k n ∈ Ks.mk KO p.1 → (Lit.int k n).wf = true) : OkO p where
  n := (Wf.i (h .i64 (oN p.1) (List.mem_of_getElem? (i := 1) rfl))).2
  g := Wf.u (h .u64 (oG p.1) (List.mem_of_getElem? (i := 2) rfl))
  u := Wf.u (h .u64 (oU p.1) (List.mem_of_getElem? (i := 3) rfl))
theorem rd_oS {ps : List OpS} {i : Nat} {o : OpS} (h : ps[i]? = some o) : Rd (oS o.1) (rl (fun p : OpS => rarr (oS p.1) KR p.2) ps) KR o.2 := rd_rl h (rd_rarr _ _ _)
def later (now gap : Int) : Int := if 4611686018427387904 < addI now gap then 4611686018427387904 else addI now gap
theorem later_r {now gap : Int} (h1 : 0 ≤ now ∧ now ≤ 4611686018427387904) (h2 : U gap) : (0 ≤ later now gap ∧ later now gap ≤ 4611686018427387904) ∧ U (later now gap) ∧ now ≤ later now gap := by
  unfold U at *
  unfold later addI
  refine ⟨?_, ?_, ?_⟩ <;> (repeat' split) <;> omega
theorem u_now {x : Int} (h : 0 ≤ x ∧ x ≤ 4611686018427387904) : U x := by unfold U; omega
theorem u_sec {x : Int} (h : U x) : U (x.tmod 1000000000) := by
  unfold U at *
  have h3 := Int.tmod_nonneg 1000000000 h.1
  have h4 := Int.tmod_lt_of_pos x (show (0 : Int) < 1000000000 by decide)
  omega
/-! ### How wide the window may become -/
structure IvB (k : Int) (v : Sk) : Prop where
  i : IvS k v
  kr : 0 ≤ k ∧ k ≤ 1000000
  g : pG v.sp = 0
  b : BbrH.Bd v.md ((k + 1) * 1073741824)
theorem addI_le (a b : Int) : addI a b ≤ a + b ∨ addI a b ≤ 18446744073709551615 ∧ a + b > 18446744073709551615 := by unfold addI; split <;> omega
theorem akd_g (now : Int) : ∀ (l : List Pc) (s : Sp), OkPcs l → pG s + 65536 * (l.length : Int) < 18446744073709551616 → pG (akdL now s l) ≤ pG s + 65536 * (l.length : Int)
  | [], s, _, _ => by show pG s ≤ pG s + 65536 * ((0 : Nat) : Int); omega
  | q :: l, s, h, hb => by
    have hq := h q (List.mem_cons_self ..)
    have h1 := hq.ft
    have h2 := hq.le
    rw [List.length_cons] at hb ⊢
    have e : pG (stepP now s q) ≤ pG s + 65536 := by
      have e1 : IntKind.u64.wrap (pTo q - pFrom q) = pTo q - pFrom q := wu (by omega) (by omega)
      have e2 : pG (stepP now s q) = addI (pG s) (IntKind.u64.wrap (pTo q - pFrom q)) := by
        unfold stepP akdP; split <;> rfl
      rw [e2, e1]
      unfold addI; split <;> omega
    have := akd_g now l (stepP now s q) (fun r hr => h r (List.mem_cons_of_mem _ hr)) (by omega)
    show pG (akdL now (stepP now s q) l) ≤ _
    omega
theorem fl_small {k : Int} {v : Sk} (h : IvS k v) : 0 ≤ skFl v ∧ skFl v ≤ 268435456 := by
  have h1 := flS_r h.pc
  have h2 := h.ok.bl
  unfold skFl
  rw [flight_eq h.pc h.ok.bl]; omega
theorem learn_b {k : Int} {v : Sk} (h : IvS k v) (hk : 0 ≤ k ∧ k ≤ 1000000) (hg : pG v.sp ≤ 268435456) (hb : BbrH.Bd v.md ((k + 1) * 1073741824)) {now lost : Int} (hn : U now) (hl : U lost) : pG (learnS v now lost).sp = 0 ∧ BbrH.Bd (learnS v now lost).md ((k + 1 + 1) * 1073741824) := by
  have ht := take_ok h.ok.sp hn hl h.ok.fl
  have hf := fl_small h
  have hm := h.ok.md.mss
  obtain ⟨b1, b2⟩ := BbrH.upd_b hb h.ok.md ⟨by omega, by omega⟩ (by omega) ht (skTso v)
  have ha : sAck (takeP v.sp now lost (skFl v)).1 ≤ 268435456 := by
    unfold takeP; split
    · exact hg
    · show (0:Int) ≤ _; decide
  have hfl : sFli (takeP v.sp now lost (skFl v)).1 = skFl v := by unfold takeP; split <;> rfl
  refine ⟨rfl, ⟨?_, by show (mUpd v.md (takeP v.sp now lost (skFl v)).1 (skTso v)).sav ≤ _; omega⟩⟩
  show (mUpd v.md (takeP v.sp now lost (skFl v)).1 (skTso v)).win ≤ _
  rcases b1 with b | b
  · have := addI_le ((k + 1) * 1073741824) (sAck (takeP v.sp now lost (skFl v)).1); omega
  · have := addI_le (sFli (takeP v.sp now lost (skFl v)).1) (sAck (takeP v.sp now lost (skFl v)).1); omega
theorem Bd_le {m : Md} {a b : Int} (h : BbrH.Bd m a) (hab : a ≤ b) : BbrH.Bd m b := ⟨Int.le_trans h.win hab, Int.le_trans h.sav hab⟩
theorem IvB.up {k : Int} {v v' : Sk} (h : IvB k v) (hk : k < 1000000) (hi : IvS (k + 1) v') (hg : pG v'.sp = pG v.sp) (hm : v'.md = v.md) : IvB (k + 1) v' :=
  { i := hi, kr := by have := h.kr; omega, g := hg.trans h.g, b := by rw [hm]; exact Bd_le h.b (by omega) }
theorem may_g (v : Sk) : pG (mayS v).2.sp = pG v.sp := by
  unfold mayS
  split
  · dsimp only; split <;> rfl
  · split
    · rfl
    · split <;> rfl
theorem touch_g (s : Sp) (now f : Int) : pG (touch s now f) = pG s := by unfold touch; split <;> rfl
theorem emit_g (v : Sk) (now : Int) : pG (emitS v now).2.sp = pG v.sp ∧ (emitS v now).2.md = v.md := by
  unfold emitS
  split
  · exact ⟨may_g v, (may_same v).md⟩
  · show pG (goS v now).2.sp = pG v.sp ∧ (goS v now).2.md = v.md
    unfold goS
    split
    · exact ⟨touch_g _ _ _, rfl⟩
    · exact ⟨touch_g _ _ _, rfl⟩
theorem IvB.emit {k : Int} {v : Sk} (h : IvB k v) (hk : k < 1000000) {now : Int} (hn : U now) : IvB (k + 1) (emitS v now).2 :=
  h.up hk ((h.i.emit hn).le (by omega)) (emit_g v now).1 (emit_g v now).2
theorem IvB.write {k : Int} {v : Sk} (h : IvB k v) (hk : k < 1000000) (n : Int) : IvB (k + 1) (writeS v n).2 :=
  h.up hk (h.i.write (by omega) n) rfl rfl
theorem IvB.done {k : Int} {v : Sk} (h : IvB k v) (hk : k < 1000000) (n : Int) : IvB (k + 1) (doneS v n).2 :=
  h.up hk ((h.i.done n).le (by omega)) (by unfold doneS; split <;> rfl) (by unfold doneS; split <;> rfl)
theorem IvB.le1 {k : Int} {v : Sk} (h : IvB k v) (hk : k < 1000000) : IvB (k + 1) v := h.up hk (h.i.le (by omega)) rfl rfl
theorem IvB.lose {k : Int} {v : Sk} (h : IvB k v) (hk : k < 1000000) {now : Int} (hn : U now) : IvB (k + 1) (loseS v now) := by
  have hi : IvS k { v with bd := (v.bd.1.map loseP, v.bd.2) } := { ok := OkSk.lose h.i.ok, pc := pcs_lose h.i.pc, e := h.i.e, w := h.i.w, o := h.i.o }
  obtain ⟨a, b⟩ := learn_b hi h.kr (by show pG v.sp ≤ _; rw [h.g]; decide) h.b hn (flight_U v.bd.1)
  exact { i := (h.i.lose hn).le (by omega), kr := by have := h.kr; omega, g := a, b := b }
theorem IvB.ack {k : Int} {v : Sk} (h : IvB k v) (hk : k < 1000000) {now : Int} (hn : U now) (upto : Int) (xs : List (Int × Int)) : IvB (k + 1) (ackS v now upto xs).2 := by
  by_cases hm : mayF v.bd upto xs = true
  · have hi : IvS k (toldS v now upto xs) := by
      obtain ⟨e1, e2⟩ := ak_N v.bf upto
      exact { ok := toldS_ok h.i.ok h.i.ps hn upto xs, pc := pcs_pass (pcs_rest h.i.pc upto xs), e := by show v.bd.2 = bN (akF v.bf upto).2; rw [e1]; exact h.i.e, w := by show bW (akF v.bf upto).2 ≤ _; rw [e2]; exact h.i.w, o := h.i.o }
    have hto : OkPcs (toldL upto xs v.bd.1) := fun q hq => h.i.pc q (List.mem_filter.1 hq).1
    have hlen : (toldL upto xs v.bd.1).length ≤ 4096 := Nat.le_trans (List.length_filter_le _ _) h.i.ok.bl
    have hg : pG (toldS v now upto xs).sp ≤ 268435456 := by
      show pG (akdL now v.sp (toldL upto xs v.bd.1)) ≤ _
      have := akd_g now (toldL upto xs v.bd.1) v.sp hto (by rw [h.g]; omega)
      rw [h.g] at this; omega
    obtain ⟨a, b⟩ := learn_b hi h.kr hg h.b hn (pass_U (restL upto xs v.bd.1))
    have e : (ackS v now upto xs).2 = learnS (toldS v now upto xs) now (passF (restL upto xs v.bd.1)).2.1 := by unfold ackS; rw [if_pos hm]
    rw [e]
    exact { i := (learn_inv hi hn (pass_U _)).le (by omega), kr := by have := h.kr; omega, g := a, b := b }
  · have e : (ackS v now upto xs).2 = v := by unfold ackS; rw [if_neg hm]
    rw [e]; exact h.le1 hk
end SockV


end Go.X
