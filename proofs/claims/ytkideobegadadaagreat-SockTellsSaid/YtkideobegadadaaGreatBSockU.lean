/- Contracts and plain facts: SockQ SockU. -/
import Derived.Test.YtkideobegadadaaGreatBArith
import Derived.Test.YtkideobegadadaaGreatBArithC
import Derived.Test.YtkideobegadadaaGreatBBoard
import Derived.Test.YtkideobegadadaaGreatBBbrM
import Derived.Test.YtkideobegadadaaGreatBBbrF
import Derived.Test.YtkideobegadadaaGreatBBbrP
import Derived.Test.YtkideobegadadaaGreatBBbrQ
import Derived.Test.YtkideobegadadaaGreatBBbrN
import Derived.Test.YtkideobegadadaaGreatBBbrU
import Derived.Test.YtkideobegadadaaGreatBSockB
import Derived.Test.YtkideobegadadaaGreatBSockC
import Derived.Test.YtkideobegadadaaGreatBSockE
import Derived.Test.YtkideobegadadaaGreatBSockG
import Derived.Test.YtkideobegadadaaGreatBSockI
import Derived.Test.YtkideobegadadaaGreatBSockK
import Derived.Test.YtkideobegadadaaGreatBSockN
import Derived.Test.YtkideobegadadaaGreatBSockP
import Derived.Test.YtkideobegadadaaGreatBBbrI
import Derived.Test.YtkideobegadadaaGreatXw
import Derived.Test.YtkideobegadadaaGreatK
import Derived.Test.YtkideobegadadaaGreatF0
import Derived.Test.YtkideobegadadaaGreatF1
set_option linter.unusedVariables false
set_option linter.unusedSimpArgs false
set_option linter.unusedSectionVars false
namespace Go.X
open Go.Proofs
namespace SockQ
open Arith ArithC Delays Board BbrM BbrMm SockA SockB SockM SockC SockD SockE SockF SockG SockH SockI SockJ SockL SockO
/-! ### What is under way, and what an emission does -/
def flS : List Pc → Int
  | [] => 0
  | p :: l => (if flyP p then pTo p - pFrom p else 0) + flS l
theorem flS_fold : ∀ (l : List Pc), OkPcs l → ∀ (n : Int), 0 ≤ n → n + 65536 * (l.length : Int) < 18446744073709551616 → l.foldl addF n = n + flS l
  | [], _, n, _, _ => by show n = n + 0; omega
  | p :: l, h, n, h0, h1 => by
    have hp := h p (List.mem_cons_self ..)
    have a1 := hp.ft
    have a2 := hp.le
    rw [List.length_cons] at h1
    have e : addF n p = n + (if flyP p then pTo p - pFrom p else 0) := by
      unfold addF
      split
      · rw [wu (n := pTo p - pFrom p) (by omega) (by omega)]
        exact wu (by omega) (by omega)
      · omega
    have hb : 0 ≤ (if flyP p = true then pTo p - pFrom p else 0) ∧ (if flyP p = true then pTo p - pFrom p else 0) ≤ 65536 := by split <;> omega
    rw [List.foldl_cons, flS_fold l (fun q hq => h q (List.mem_cons_of_mem _ hq)) _ (by rw [e]; omega) (by rw [e]; omega), e, flS]
    omega
theorem flight_eq {l : List Pc} (h : OkPcs l) (hl : l.length ≤ 4096) : flightF l = flS l := by
  have := flS_fold l h 0 (by decide) (by omega)
  rw [flightF, this]; omega
theorem flS_app : ∀ (l m : List Pc), flS (l ++ m) = flS l + flS m
  | [], m => by show flS m = 0 + flS m; omega
  | p :: l, m => by show _ + flS (l ++ m) = _ + flS l + flS m; rw [flS_app l m]; omega
theorem flS_set : ∀ {l : List Pc} {i : Nat} {p : Pc} (q : Pc), l[i]? = some p → flS (l.set i q) = flS l - (if flyP p then pTo p - pFrom p else 0) + (if flyP q then pTo q - pFrom q else 0)
  | [], i, p, q, h => by cases h
  | a :: l, 0, p, q, h => by
    cases h
    show _ + flS l = (_ + flS l) - _ + _
    omega
  | a :: l, i + 1, p, q, h => by
    have := flS_set (l := l) (i := i) (p := p) q (by simpa using h)
    show _ + flS (l.set i q) = (_ + flS l) - _ + _
    rw [this]
    omega
theorem fI_some {α : Type} {f : α → Bool} {xs : List α} (h : ¬ fI f xs < 0) : ∃ x, xs[(fI f xs).toNat]? = some x ∧ f x = true := by
  unfold fI at h ⊢
  split at h
  · rename_i i hi
    obtain ⟨hl, hp, _⟩ := List.findIdx?_eq_some_iff_getElem.1 hi
    exact ⟨xs[i], by simp [List.getElem?_eq_getElem hl], hp⟩
  · exact absurd (by decide : (-1 : Int) < 0) h
/-- The first lost one, and the board with it under way again. -/
theorem lost_at {l : List Pc} (h : (lostF l).2 = true) : ∃ i p, l[i]? = some p ∧ pLo p = true ∧ (lostF l).1 = (pFrom p, pTo p) ∧ ∀ s, againF l s = l.set i (againP p s) := by
  have hi : ¬ fI pLo l < 0 := fun hc => by rw [lostF_no hc] at h; cases h
  obtain ⟨p, hp, hl⟩ := fI_some hi
  refine ⟨(fI pLo l).toNat, p, hp, hl, ?_, fun s => ?_⟩
  · unfold lostF; rw [hp]; dsimp only; rw [if_neg hi]
  · unfold againF; rw [hp]; dsimp only; rw [if_neg hi]
theorem again_fl {l : List Pc} (hl : OkPcs l) (h : (lostF l).2 = true) (s : Snt) : flS (againF l s) = flS l + ((lostF l).1.2 - (lostF l).1.1) ∧ 1 ≤ (lostF l).1.2 - (lostF l).1.1 := by
  obtain ⟨i, p, hp, hlo, e1, e2⟩ := lost_at h
  have ho := hl p (List.mem_of_getElem? hp)
  have hsk := ho.x hlo
  have h1 := ho.ft
  have f1 : flyP p = false := by unfold flyP; rw [hlo]; simp
  have f2 : flyP (againP p s) = true := by
    show (!(pSk p) && !false) = true
    rw [hsk]; rfl
  rw [e2, flS_set _ hp, e1, f1, f2]
  refine ⟨?_, by show 1 ≤ pTo p - pFrom p; omega⟩
  show flS l - 0 + (pTo p - pFrom p) = flS l + (pTo p - pFrom p)
  omega
theorem may_yes {v : Sk} (h : (mayS v).1 = 0) : skFl v < v.md.win ∧ v.out < belowF v.md.rate (skTso v) v.cap := by
  unfold mayS at h
  split at h
  · cases h
  · split at h
    · cases h
    · rename_i c; exact Classical.not_not.1 c
theorem emit_yes {v : Sk} {now : Int} (h : (emitS v now).1.2 = 0) : (mayS v).1 = 0 := by
  by_cases hm : (mayS v).1 = 0
  · exact hm
  · unfold emitS at h; rw [if_pos hm] at h; exact h
/-- The segments' lengths and places. -/
abbrev gN (g : Sg) : Int := g.2.2.1
abbrev gF (g : Sg) : Int := g.2.1
abbrev gS (g : Sg) : Int := g.2.2.2.1
abbrev gA (g : Sg) : Bool := g.2.2.2.2
structure Went (v : Sk) (now : Int) (g : Sg) (v' : Sk) : Prop where
  n : 1 ≤ gN g ∧ gN g ≤ 65536
  id : g.1 = v.id
  st : gS g = if v.nx > now then v.nx else now
  out : v'.out = v.out + gN g
  fl : skFl v' = skFl v + gN g
  win : skFl v < v.md.win
  lim : v.out < belowF v.md.rate (skTso v) v.cap
  md : v'.md = v.md
  kid : v'.id = v.id
  mss : v'.mss = v.mss
  cap : v'.cap = v.cap
  nx : v'.nx = addI (gS g) (delayI (gN g) v.md.rate)
  new : gA g = false → gF g = bN v.bf ∧ v'.bf = (bW v.bf, bN v.bf + gN g, bU v.bf, bL v.bf) ∧ (lostF v.bd.1).2 = false ∧ gN g = cutN v ∧ v'.bd = (v.bd.1 ++ [mkPc (gF g) (gF g + gN g) (sentP v.sp now (skFl v)).1], gF g + gN g)
  old : gA g = true → v'.bf = v.bf ∧ lostF v.bd.1 = ((gF g, gF g + gN g), true) ∧ v'.bd = (againF v.bd.1 (sentP v.sp now (skFl v)).1, v.bd.2)
theorem emit_went {k : Int} {v : Sk} (h : IvS k v) {now : Int} (hn : U now) (he : (emitS v now).1.2 = 0) : Went v now (emitS v now).1.1 (emitS v now).2 := by
  have hm := emit_yes he
  obtain ⟨m1, m2⟩ := may_yes hm
  have hbl := h.ok.bl
  have e : emitS v now = (((goS v now).1, 0), (goS v now).2) := by unfold emitS; rw [if_neg (fun c => c hm)]
  rw [e]
  dsimp only
  cases hl : (lostF v.bd.1).2 with
  | true =>
    have hp := oldP_inv h hn
    obtain ⟨f1, f2⟩ := again_fl h.pc hl (sentP v.sp now (skFl v)).1
    obtain ⟨_, f3⟩ := pcs_lost h.pc hl
    rw [go_old v now hl]
    have hF : skFl (oldP v now) = skFl v + ((lostF v.bd.1).1.2 - (lostF v.bd.1).1.1) := by
      show flightF (againF v.bd.1 _) = flightF v.bd.1 + _
      rw [flight_eq hp.pc hp.ok.bl, flight_eq h.pc h.ok.bl]
      exact f1
    exact ⟨⟨f2, f3⟩, rfl, rfl, rfl, hF, m1, m2, rfl, rfl, rfl, rfl, rfl, fun c => (by cases c), fun _ => ⟨rfl, by
      show lostF v.bd.1 = (((lostF v.bd.1).1.1, (lostF v.bd.1).1.1 + ((lostF v.bd.1).1.2 - (lostF v.bd.1).1.1)), true)
      rw [show (lostF v.bd.1).1.1 + ((lostF v.bd.1).1.2 - (lostF v.bd.1).1.1) = (lostF v.bd.1).1.2 by omega]
      exact Prod.ext rfl hl, rfl⟩⟩
  | false =>
    obtain ⟨g1, g2⟩ := may_go hm hl
    have hc := cut_r h g1
    have hp := newP_inv h hn hm hl
    rw [go_new h now hm hl]
    have hw : bN v.bf + cutN v - bN v.bf = cutN v := by omega
    have hF : skFl (newP v now) = skFl v + (bN v.bf + cutN v - bN v.bf) := by
      show flightF (v.bd.1 ++ [_]) = flightF v.bd.1 + _
      rw [flight_eq hp.pc hp.ok.bl, flight_eq h.pc h.ok.bl, flS_app]
      show _ + (bN v.bf + cutN v - bN v.bf + 0) = _
      omega
    refine ⟨⟨by show 1 ≤ bN v.bf + cutN v - bN v.bf; omega, by show bN v.bf + cutN v - bN v.bf ≤ 65536; omega⟩, rfl, rfl, rfl, hF, m1, m2, rfl, rfl, rfl, rfl, rfl, fun _ => ⟨rfl, ?_, hl, hw, ?_⟩, fun c => (by cases c)⟩
    · show (bW v.bf, bN v.bf + cutN v, bU v.bf, bL v.bf) = (bW v.bf, bN v.bf + (bN v.bf + cutN v - bN v.bf), bU v.bf, bL v.bf)
      rw [hw]
    · show (v.bd.1 ++ [mkPc (bN v.bf) (bN v.bf + cutN v) _], bN v.bf + cutN v) = (v.bd.1 ++ [mkPc (bN v.bf) (bN v.bf + (bN v.bf + cutN v - bN v.bf)) _], bN v.bf + (bN v.bf + cutN v - bN v.bf))
      rw [hw]
end SockQ

namespace SockU
open Arith ArithC Delays Board BbrM BbrMm SockA SockB SockM SockC SockD SockE SockF SockG SockH SockI SockJ SockK SockL SockN SockO SockP SockQ
/-! ### What a socket learns of its first acknowledgement -/
abbrev sT (now n gap : Int) : Sm := (now, n, 0, gap, gap, n, 0, 0, false)
theorem first_upd {now n gap tso : Int} (hn : 0 < n) (hg : 0 < gap) : mBw (mUpd (mNew 1000) (sT now n gap) tso) = mdI n 1000000000 gap ∧ (mUpd (mNew 1000) (sT now n gap) tso).b.best = gap ∧ (mUpd (mNew 1000) (sT now n gap) tso).r.n = 1 := by
  have hk0 : (0:Int) ≤ mdI n 1000000000 gap := by
    unfold mdI
    split
    · decide
    · split
      · exact Int.ediv_nonneg (by omega) (by omega)
      · decide
  have hK : mK (sT now n gap) = mdI n 1000000000 gap := by
    show mdI (subI n 0) 1000000000 gap = _
    unfold subI; rw [if_neg (by omega)]; rw [Int.sub_zero]
  obtain ⟨o, ho⟩ : ∃ o, o = rB (mNew 1000).r (sT now n gap) := ⟨_, rfl⟩
  have hrb : rB (mNew 1000).r (sT now n gap) = true := by
    show (decide (n > 0) && !decide ((0:Int) < 0)) = true
    simp [hn]
  have e : mUpd (mNew 1000) (sT now n gap) tso = mU3 (mU2 (mU1 (mNew 1000) (sT now n gap)) true (sT now n gap)) true (sT now n gap) tso := by
    unfold mUpd; rw [hrb]
  have r1 : rU (mNew 1000).r (sT now n gap) = ⟨1, n⟩ := by unfold rU; rw [if_pos hrb]; rfl
  have q1 : (qUpd (mNew 1000).q true (sT now n gap)).use = false := by
    unfold qUpd
    rw [if_pos ⟨rfl, rfl⟩, if_neg (by show ¬ (0:Int) > 0; decide)]
    rfl
  obtain ⟨m1, hm1⟩ : ∃ m1, m1 = mU1 (mNew 1000) (sT now n gap) := ⟨_, rfl⟩
  have f1 : m1.r = ⟨1, n⟩ ∧ m1.q.use = false ∧ m1.b = ⟨0, 0, false, 0, false⟩ ∧ m1.p = ⟨0, 0, false⟩ ∧ m1.mode = 0 ∧ m1.w = ⟨10, 0, 0, 0, 0, 0, 0, 0⟩ := by
    rw [hm1]
    exact ⟨r1, by show (qUpd (mNew 1000).q (rB (mNew 1000).r (sT now n gap)) (sT now n gap)).use = false; rw [hrb]; exact q1, rfl, rfl, rfl, rfl⟩
  obtain ⟨a1, a2, a3, a4, a5, a6⟩ := f1
  have e2 : mMeas m1 (sT now n gap) = { m1 with w := wUpd m1.w m1.r.n (mdI n 1000000000 gap) } := by
    unfold mMeas
    rw [if_neg (by show ¬ (n = 0 ∨ gap = 0); omega), if_pos (.inl rfl), hK]
  have b1 := BbrG.s_meas m1 (sT now n gap)
  have b2 : mCyc (mMeas m1 (sT now n gap)) (sT now n gap) = mMeas m1 (sT now n gap) := by
    unfold mCyc; rw [if_neg (by rw [b1.mode, a5]; exact fun c => by cases c.1)]
  obtain ⟨m2, hm2⟩ : ∃ m2, m2 = mMeas m1 (sT now n gap) := ⟨_, rfl⟩
  rw [← hm2] at b1 b2 e2
  have hw : m2.w.v0 = mdI n 1000000000 gap := by
    rw [e2]; exact BbrS.wUpd_v0 _ _ _ (by rw [a6]; exact hk0)
  have hq : m2.q.use = false := by rw [e2]; exact a2
  obtain ⟨m3, hm3⟩ : ∃ m3 : Md, m3 = mPipe m2 true (sT now n gap) := ⟨_, rfl⟩
  have hp : m3.p.full = false := by
    rw [hm3]
    show (pU m2.p true false m2.w.v0).full = false
    rw [b1.p, a4]
    unfold pU
    rw [if_pos (by decide), if_pos (by show m2.w.v0 ≥ mdI 0 320 256; rw [hw]; exact hk0)]
  have hmode : m3.mode = 0 := by rw [hm3]; exact b1.mode.trans a5
  have e3 : mM2 (mM1 m3) (sT now n gap) = m3 := by
    have : mM1 m3 = m3 := by unfold mM1; rw [if_neg (by rw [hp]; exact fun c => by cases c.2)]
    rw [this]; unfold mM2; rw [if_neg (by rw [hmode]; exact fun c => by cases c.1)]
  have hb3 : m3.b = ⟨0, 0, false, 0, false⟩ := by rw [hm3]; exact b1.b.trans a3
  have e4 : mLook m3 (sT now n gap) true = { m3 with b := bNew m3.b now gap } := BbrS.calm_look m3 (sT now n gap) true (by rw [hb3]) (by unfold bOld; rw [hb3]; rfl)
  have e5 : mU2 m1 true (sT now n gap) = { m3 with b := bNew m3.b now gap } := by
    unfold mU2; rw [← hm2, b2, ← hm3, e3, e4]
  have hbest : (bNew m3.b now gap).best = gap := by
    unfold bNew bTake; rw [hb3]
    rw [if_pos (by simp [hg])]
  rw [e, ← hm1, e5]
  have s4 := BbrG.s_u3 { m3 with b := bNew m3.b now gap } true (sT now n gap) tso
  have k2 := BbrS.g_u3 { m3 with b := bNew m3.b now gap } true (sT now n gap) tso
  generalize mU3 { m3 with b := bNew m3.b now gap } true (sT now n gap) tso = z at *
  refine ⟨?_, ?_, ?_⟩
  · unfold mBw
    rw [k2.q, k2.w]
    show (if m3.q.use = true then m3.q.bw else m3.w.v0) = _
    rw [hm3]
    show (if m2.q.use = true then m2.q.bw else m2.w.v0) = _
    rw [hq, if_neg (by simp), hw]
  · rw [s4.b]; exact hbest
  · rw [s4.r]
    show m3.r.n = 1
    rw [hm3]
    show m2.r.n = 1
    rw [b1.r, a1]
/-- One segment of all that was written. -/
abbrev uT : Int := tsoF (mNew 1000).rate 1000
theorem uT_eq : 20000 ≤ uT ∧ (0:Int) < (mNew 1000).win ∧ (0:Int) < belowF (mNew 1000).rate uT 100000 := by decide +kernel
structure One (n : Int) (v : Sk) : Prop where
  bf : v.bf = (n, n, 0, 1073741824)
  bd : v.bd = ([mkPc 0 n (7, 0, 7, 7, false)], n)
  md : v.md = mNew 1000
  mss : v.mss = 1000
  sp : ∃ L, v.sp = (0, 7, 7, L, false, 0, 0, 0, false, 0, 0)
theorem one_of {n : Int} (hn : 1 ≤ n ∧ n ≤ 20000) : ∃ v1, v1 = (writeS (newS 4 1000 100000) n).2 ∧ IvS 1 v1 ∧ (emitS v1 7).1.2 = 0 ∧ gF (emitS v1 7).1.1 = 0 ∧ gN (emitS v1 7).1.1 = n ∧
    One n (doneS (emitS v1 7).2 n).2 ∧ (emitS (doneS (emitS v1 7).2 n).2 7).1.2 ≠ 0 ∧ One n (emitS (doneS (emitS v1 7).2 n).2 7).2 := by
  have i0 : IvS 0 (newS 4 1000 100000) := new_inv 4 1000 100000 cap_plain
  refine ⟨_, rfl, i0.write (by decide) n, ?_⟩
  have i1 : IvS 1 (writeS (newS 4 1000 100000) n).2 := i0.write (by decide) n
  have ew : (writeS (newS 4 1000 100000) n).2 = { newS 4 1000 100000 with bf := (0 + n, 0, 0, 1073741824) } := by
    unfold writeS wrF
    rw [if_neg (by omega), if_neg (by show ¬ n > 1073741824 - (0 - 0); omega)]; rfl
  rw [Int.zero_add] at ew
  rw [ew] at i1 ⊢
  obtain ⟨u1, u2, u3⟩ := uT_eq
  obtain ⟨v1, hv1⟩ : ∃ v1 : Sk, v1 = { newS 4 1000 100000 with bf := (n, 0, 0, 1073741824) } := ⟨_, rfl⟩
  rw [← hv1] at i1 ⊢
  have f0 : v1.bf = (n, 0, 0, 1073741824) ∧ v1.bd = ([], 0) ∧ v1.md = mNew 1000 ∧ v1.mss = 1000 ∧ v1.cap = 100000 ∧ v1.out = 0 ∧ v1.sp = sp0 := by
    rw [hv1]; exact ⟨rfl, rfl, rfl, rfl, rfl, rfl, rfl⟩
  obtain ⟨c1, c2, c3, c4, c5, c6, c7⟩ := f0
  have hfl : skFl v1 = 0 := by unfold skFl; rw [c2]; rfl
  have hts : skTso v1 = uT := by unfold skTso; rw [c3, c4]
  have hmy : (mayS v1).1 = 0 := by
    unfold mayS
    rw [if_neg (fun c => by have := c.2; rw [c1] at this; have : n - 0 = 0 := this; omega), if_neg (by rw [hfl, c6, hts, c3, c5]; exact fun c => c ⟨u2, u3⟩), if_neg (by rw [c2]; exact fun c => by have := c.2; simp at this)]
  have he : (emitS v1 7).1.2 = 0 := by unfold emitS; rw [if_neg (by rw [hmy]; decide)]
  have hw := emit_went i1 (U_lit 7) he
  have hlo : (lostF v1.bd.1).2 = false := by rw [c2]; rfl
  have hg : gA (emitS v1 7).1.1 = false := by
    cases hx : gA (emitS v1 7).1.1 with
    | false => rfl
    | true => have := (hw.old hx).2.1; rw [this] at hlo; cases hlo
  obtain ⟨w1, w2, _, w3, w4⟩ := hw.new hg
  have hcut : cutN v1 = n := by
    unfold cutN; rw [hts, c1]; show min (n - 0) uT = n; omega
  rw [hcut] at w3
  have hN0 : bN v1.bf = 0 := by rw [c1]
  rw [hN0] at w1 w2
  rw [w1, w3, hfl, c7, c2] at w4
  rw [w3] at w2
  have hsn : (sentP sp0 7 0).1 = (7, 0, 7, 7, false) := by decide
  have hsp : (emitS v1 7).2.sp = (0, 7, 7, 0, false, 0, 0, 0, false, 0, 0) := by
    have e : (emitS v1 7).2 = (goS v1 7).2 := by unfold emitS; rw [if_neg (by rw [hmy]; decide)]
    rw [e, go_new i1 7 hmy hlo]
    show (sentP v1.sp 7 (skFl v1)).2 = _
    rw [hfl, c7]; rfl
  refine ⟨he, w1, w3, ?_⟩
  obtain ⟨v2, hv2⟩ : ∃ v2, v2 = (doneS (emitS v1 7).2 n).2 := ⟨_, rfl⟩
  have hd : v2 = { (emitS v1 7).2 with out := v2.out } := by
    rw [hv2]; unfold doneS; split <;> rfl
  have o2 : One n v2 := by
    rw [hd]
    exact ⟨by show (emitS v1 7).2.bf = _; rw [w2, c1]; show (n, 0 + n, 0, 1073741824) = _; rw [Int.zero_add], by show (emitS v1 7).2.bd = _; rw [w4, hsn]; show ([] ++ [mkPc 0 (0 + n) _], 0 + n) = _; rw [Int.zero_add]; rfl, hw.md.trans c3, hw.mss.trans c4, 0, hsp⟩
  rw [← hv2]
  have hlo2 : (lostF v2.bd.1).2 = false := by
    cases hx : (lostF v2.bd.1).2 with
    | false => rfl
    | true =>
      obtain ⟨i, p, hp, hl, _⟩ := lost_at hx
      rw [o2.bd] at hp
      have := List.mem_singleton.1 (List.mem_of_getElem? hp)
      rw [this] at hl; cases hl
  have hm2 : (mayS v2).1 = 7 ∧ ((mayS v2).2 = v2 ∨ ∃ f, (mayS v2).2 = { v2 with sp := limitP v2.sp f }) := by
    have hc : (lostF v2.bd.1).2 = false ∧ bW v2.bf - bN v2.bf = 0 := ⟨hlo2, by rw [o2.bf]; show n - n = 0; omega⟩
    unfold mayS; rw [if_pos hc]
    refine ⟨rfl, ?_⟩
    dsimp only
    split
    · exact .inr ⟨_, rfl⟩
    · exact .inl rfl
  have he2 : emitS v2 7 = ((noS, (mayS v2).1), (mayS v2).2) := by unfold emitS; rw [if_pos (by rw [hm2.1]; decide)]
  refine ⟨o2, by rw [he2, hm2.1]; show (7:Int) ≠ 0; decide, ?_⟩
  rw [he2]
  show One n (mayS v2).2
  rcases hm2.2 with e | ⟨f, e⟩
  · rw [e]; exact o2
  · rw [e]
    obtain ⟨L, hL⟩ := o2.sp
    exact ⟨o2.bf, o2.bd, o2.md, o2.mss, _, by show limitP v2.sp f = _; rw [hL]; rfl⟩
theorem acked {n gap : Int} {v : Sk} (h : One n v) (hn : 1 ≤ n ∧ n ≤ 20000) (hg : 1 ≤ gap ∧ gap ≤ 1000000000) : (ackS v (7 + gap) n []).1 = 0 ∧ mBw (ackS v (7 + gap) n []).2.md = mdI n 1000000000 gap ∧ (ackS v (7 + gap) n []).2.md.b.best = gap ∧
    (ackS v (7 + gap) n []).2.md.r.n = 1 ∧ (ackS v (7 + gap) n []).2.bd = ([], n) := by
  obtain ⟨L, hL⟩ := h.sp
  have m1 : mayF v.bd n [] = true := by rw [h.bd]; show (decide (n ≤ n) && !false) = true; simp
  have m2 : restL n [] v.bd.1 = [] := by
    rw [h.bd]; unfold restL
    rw [show [mkPc 0 n (7, 0, 7, 7, false)].filter (fun p => !decide (p.2.1 ≤ n)) = [] by
      rw [List.filter_cons, if_neg (by show ¬ (!decide (n ≤ n)) = true; simp)]; rfl]
    rfl
  have m3 : toldL n [] v.bd.1 = [mkPc 0 n (7, 0, 7, 7, false)] := by
    rw [h.bd]; unfold toldL
    rw [List.filter_cons, if_pos (by show (!false && (decide (n ≤ n) || false)) = true; simp)]; rfl
  have m4 : akdL (7 + gap) v.sp (toldL n [] v.bd.1) = (n, 7 + gap, 7, (if n > L then 0 else L), true, n, 0, 7, false, 0, gap) := by
    rw [m3, hL]
    have e0 : akdL (7 + gap) (0, 7, 7, L, false, 0, 0, 0, false, 0, 0) [mkPc 0 n (7, 0, 7, 7, false)] = akdP (0, 7, 7, L, false, 0, 0, 0, false, 0, 0) (7 + gap) (IntKind.u64.wrap (n - 0)) (7, 0, 7, 7, false) := rfl
    rw [e0, Int.sub_zero, wu (n := n) (by omega) (by omega)]
    have e1 : addI 0 n = n := by unfold addI; rw [if_pos (by omega)]; omega
    have e2 : subI (7 + gap) 7 = gap := by unfold subI; rw [if_neg (by omega)]; omega
    unfold akdP
    rw [if_pos (by rfl)]
    show (addI 0 n, 7 + gap, (7:Int), (if addI 0 n > L then 0 else L), true, addI 0 n, (0:Int), (7:Int), false, subI 7 7, subI (7 + gap) 7) = _
    rw [e1, e2]; rfl
  have m5 : (takeP (akdL (7 + gap) v.sp (toldL n [] v.bd.1)) (7 + gap) 0 0).1 = sT (7 + gap) n gap := by
    rw [m4]; unfold takeP
    rw [if_pos rfl]
    show ((7 + gap, n, (0:Int), longI 0 (subI (7 + gap) 7), gap, n, (0:Int), (0:Int), false) : Sm) = _
    have e2 : subI (7 + gap) 7 = gap := by unfold subI; rw [if_neg (by omega)]; omega
    rw [e2]
    have e3 : longI 0 gap = gap := by
      unfold longI
      rw [if_neg (show ¬ gap ≤ (if (0:Int) ≤ 0 then 0 else 0) by rw [if_pos (by decide)]; omega)]
    rw [e3]
  have e : ackS v (7 + gap) n [] = (0, learnS (toldS v (7 + gap) n []) (7 + gap) 0) := by
    unfold ackS; rw [if_pos m1, m2]; rfl
  have eb : (toldS v (7 + gap) n []).bd = ([], n) := by
    show ((passF (restL n [] v.bd.1)).1, v.bd.2) = _
    rw [m2, h.bd]; rfl
  have ef : skFl (toldS v (7 + gap) n []) = 0 := by unfold skFl; rw [eb]; rfl
  have emd : (learnS (toldS v (7 + gap) n []) (7 + gap) 0).md = mUpd (mNew 1000) (sT (7 + gap) n gap) (skTso (toldS v (7 + gap) n [])) := by
    show mUpd v.md (takeP (akdL (7 + gap) v.sp (toldL n [] v.bd.1)) (7 + gap) 0 (skFl (toldS v (7 + gap) n []))).1 _ = _
    rw [ef, m5, h.md]
  obtain ⟨t1, t2, t3⟩ := first_upd (now := 7 + gap) (n := n) (gap := gap) (tso := skTso (toldS v (7 + gap) n [])) (by omega) (by omega)
  rw [e]
  exact ⟨rfl, by rw [emd]; exact t1, by rw [emd]; exact t2, by rw [emd]; exact t3, eb⟩
theorem tells_tri (n o : Int) (ho : U o) : Tri Tryz.prog N_canterlaw25_SockTells [.lf (.int .i64 n), .lf (.int .u64 o)] [.lf .bool] emp (fun r => pur (r = true) emp) :=
  tri_0 (call_canterlaw25_SockTells n o) fun w0 S R h => by
    unfold W_canterlaw25_SockTells
    have u7 : U 7 := U_lit 7
    have i0 : IvS 0 (newS 4 1000 100000) := new_inv 4 1000 100000 cap_plain
    have hm := modr n (m := 20000) (by decide) (by decide)
    have h1 := Int.tmod_nonneg 1000000000 ho.1
    have h2 := Int.tmod_lt_of_pos o (show (0:Int) < 1000000000 by decide)
    obtain ⟨gap, hgap⟩ : ∃ gap, gap = 1 + o.tmod 1000000000 := ⟨_, rfl⟩
    obtain ⟨m, hmm⟩ : ∃ m, m = 1 + IntKind.i64.wrap ((IntKind.u64.wrap n).tmod 20000) := ⟨_, rfl⟩
    have hg : 1 ≤ gap ∧ gap ≤ 1000000000 := by omega
    have hn : 1 ≤ m ∧ m ≤ 20000 := by omega
    rw [← hgap, ← hmm, wu (n := gap) (by omega) (by omega), wu (n := 7 + gap) (by omega) (by omega), wi (n := m) (by omega) (by omega)]
    obtain ⟨v1, hv1, i1, q1, q2, q3, q4, q5, q6⟩ := one_of hn
    have i1e := i1.emit u7
    obtain ⟨v2, hv2⟩ : ∃ v2, v2 = (doneS (emitS v1 7).2 m).2 := ⟨_, rfl⟩
    have i2 : IvS 1 v2 := by rw [hv2]; exact i1e.done m
    rw [← hv2] at q4 q5 q6
    obtain ⟨v3, hv3⟩ : ∃ v3, v3 = (emitS v2 7).2 := ⟨_, rfl⟩
    have i3 : IvS 1 v3 := by rw [hv3]; exact i2.emit u7
    rw [← hv3] at q6
    obtain ⟨t1, t2, t3, t4, t5⟩ := acked q6 hn hg
    have un : U (7 + gap) := ⟨by omega, by omega⟩
    obtain ⟨v4, hv4⟩ : ∃ v4, v4 = (ackS v3 (7 + gap) m []).2 := ⟨_, rfl⟩
    have i4 : IvS 1 v4 := by rw [hv4]; exact i3.ack un m []
    rw [← hv4] at t2 t3 t4 t5
    have t6 : ackS v4 (7 + gap) (m + 1) [] = (11, v4) := by
      unfold ackS
      rw [if_neg (by
        rw [t5]
        show ¬ (decide (m + 1 ≤ m) && !false) = true
        rw [show decide (m + 1 ≤ m) = false from decide_eq_false (by omega)]; simp)]
    refine w_call plain_tri (h.le (star_emp _)) fun r w h => ?_
    obtain ⟨hr, h⟩ := h.purP; rw [hr]
    refine w_call (snew_tri 4 plainC) h fun r w h => ?_
    obtain ⟨p, h⟩ := h.exP
    obtain ⟨hr, h⟩ := h.purP; rw [hr]
    have h : Own w0 S R w (sck p (newS 4 1000 100000) ^ emp) := h.fin
    refine w_call awake_tri h fun r w h => ?_
    obtain ⟨hr, h⟩ := h.purP; rw [hr]
    refine w_ite (fun c => (by cases c)) fun _ => ?_
    refine w_call (write_tri p (newS 4 1000 100000) i0.ok.bf m (by omega)) h fun r w h => ?_
    obtain ⟨_, h⟩ := h.purP
    have h : Own w0 S R w (sck p v1 ^ emp) := by rw [hv1]; exact h.fin
    refine w_join h (fun _ => sck p v3 ^ emp) (fun y : Int => y = m) (fun (y : Int) w hy h => ?_) ?_
    · rw [hy]
      have h := h.nil KR
      refine w_callL (A := sck p v3) (Q := rarr ⟨none, 0, 0⟩ KR []) (sack_tri p v3 i3.ok i3.ps (7 + gap) m un ⟨none, 0, 0⟩ [] (by simp)) h fun r w h => ?_
      obtain ⟨hr, h⟩ := h.purP; rw [hr, t1]
      rw [← hv4] at h
      rw [wu (n := m + 1) (by omega) (by omega)]
      refine w_callL (A := sck p v4) (Q := rarr ⟨none, 0, 0⟩ KR []) (sack_tri p v4 i4.ok i4.ps (7 + gap) (m + 1) un ⟨none, 0, 0⟩ [] (by simp)) h fun r w h => ?_
      rw [t6] at h
      obtain ⟨hr, h⟩ := h.purP; rw [hr]
      refine w_call (model_tri p v4) h fun r w h => ?_
      obtain ⟨hr, h⟩ := h.purP; rw [hr]
      obtain ⟨st, hst⟩ : ∃ st, st = mSt v4.md := ⟨_, rfl⟩
      rw [← hst]
      refine w_new h fun n18 w h => w_setAll h (by rfl) fun w h => w_drw h fun w h => w_ite (fun _ => ?_) fun c => (by cases c)
      refine w_ite (fun _ => ?_) fun c => (by cases c)
      refine w_ld (x := st.2.2.2.2.2.1) h rfl ?_
      rw [show st.2.2.2.2.2.1 = gap by rw [hst]; exact t3]
      refine w_ite (fun _ => ?_) fun c => (by simp at c)
      refine w_ld (x := st.2.2.2.2.2.2.2.1) h rfl ?_
      rw [show st.2.2.2.2.2.2.2.1 = 1 by rw [hst]; exact t4]
      refine w_ite (fun _ => ?_) fun c => (by cases c)
      refine w_ld (x := st.2.2.2.2.1) h rfl (w_call (rmd_tri m 1000000000 gap ⟨by omega, by omega⟩ (U_lit _) ⟨by omega, by omega⟩) h fun r w h => ?_)
      obtain ⟨hr, h⟩ := h.purP; rw [hr]
      refine w_chk h rfl ?_
      rw [show st.2.2.2.2.1 = mdI m 1000000000 gap by rw [hst]; exact t2]
      refine w_ite (fun _ => ?_) fun c => (by simp at c)
      refine w_call (SockC.flight_tri p v4 i4.bl) h fun r w h => ?_
      obtain ⟨hr, h⟩ := h.purP; rw [hr]
      exact Own.retP (by rw [show skFl v4 = 0 by unfold skFl; rw [t5]; rfl]; rfl) h.emp'
    · refine w_loopE (fun (_ : Int × Int) (v : Sk) => sck p v ^ emp) (fun (y : Int × Int) v => (y.2 = 0 ∧ y.1 = 0 ∧ v = v1) ∨ (y.2 = 1 ∧ y.1 = m ∧ v = v2)) (fun (y : Int × Int) _ => (2 - y.2).toNat) v1 h (.inl ⟨rfl, rfl, rfl⟩) ?_
      rintro K (y : Int × Int) v w hy h k
      obtain ⟨y1, y2⟩ := y
      dsimp only at hy ⊢
      rcases hy with ⟨h2, h1, hv⟩ | ⟨h2, h1, hv⟩
      · rw [h2, h1]; rw [hv] at h
        refine w_ite (fun _ => ?_) fun c => (by cases c)
        refine w_call (emit_tri p v1 i1.ok (pcs_lost i1.pc) 7 u7) h fun r w h => ?_
        obtain ⟨hr, h⟩ := h.purP; rw [hr]
        refine w_new h fun n w h => w_setAll h (by rfl) fun w h => ?_
        rw [q1]
        refine w_ite (fun c => (by cases c)) fun _ => ?_
        refine w_ld (x := gF (emitS v1 7).1.1) h rfl (w_ld (x := gN (emitS v1 7).1.1) h rfl (w_ld (x := gN (emitS v1 7).1.1) h rfl ?_))
        rw [q2, q3]
        refine w_call (SockC.done_tri p (emitS v1 7).2 i1e.ok.out m (by omega)) h fun r w h => ?_
        obtain ⟨_, h⟩ := h.purP
        rw [← hv2] at h
        have ew : IntKind.u64.wrap (0 + IntKind.u64.wrap m) = m := by rw [wu (n := m) (by omega) (by omega)]; rw [Int.zero_add]; exact wu (by omega) (by omega)
        rw [ew]
        exact k (m, 1) v2 w (.inr ⟨rfl, rfl, rfl⟩) h.fin (by show (2 - (1:Int)).toNat < (2 - y2).toNat; rw [h2]; decide)
      · rw [h2, h1]; rw [hv] at h
        refine w_ite (fun _ => ?_) fun c => (by cases c)
        refine w_call (emit_tri p v2 i2.ok (pcs_lost i2.pc) 7 u7) h fun r w h => ?_
        obtain ⟨hr, h⟩ := h.purP; rw [hr]
        refine w_new h fun n w h => w_setAll h (by rfl) fun w h => ?_
        refine w_ite (fun _ => ?_) fun c => ?_
        · rw [← hv3] at h
          exact ⟨rfl, h.fin⟩
        · have c : (emitS v2 7).1.2 = 0 := by simpa using c
          exact absurd c q5
end SockU


end Go.X
