/- Contracts and plain facts: EgG EgH EgI EgJ EgK EgP. -/
import Derived.Test.YtaimlgfepkopkaaGreatB0
import Derived.Test.YtaimlgfepkopkaaGreatB1
import Derived.Test.YtaimlgfepkopkaaGreatB2
import Derived.Test.YtaimlgfepkopkaaGreatB3
import Derived.Test.YtaimlgfepkopkaaGreatB4
import Derived.Test.YtaimlgfepkopkaaGreatB5
import Derived.Test.YtaimlgfepkopkaaGreatB6
import Derived.Test.YtaimlgfepkopkaaGreatB7
import Derived.Test.YtaimlgfepkopkaaGreatB8
import Derived.Test.YtaimlgfepkopkaaGreatB9
import Derived.Test.YtaimlgfepkopkaaGreatK
import Derived.Test.YtaimlgfepkopkaaGreatF0
import Derived.Test.YtaimlgfepkopkaaGreatF1
import Derived.Test.YtaimlgfepkopkaaGreatF2
set_option linter.unusedVariables false
set_option linter.unusedSimpArgs false
set_option linter.unusedSectionVars false
namespace Go.X
open Go.Proofs
namespace EgG
open Arith ArithC FqM EgM
class NoS (A : SP) : Prop where
 nos : ∀ w S R, A.h w S R → ∀ k, ¬ S k
instance (s : Sl) (K : Ks) (xs : List (Ks.T K)) : NoS (rarr s K xs) := ⟨fun _ _ _ h => h.2.1⟩
instance : NoS emp := ⟨fun _ _ _ h => h.1⟩
instance (A B : SP) [a : NoS A] [b : NoS B] : NoS (A ^ B) := ⟨fun _ _ _ ⟨_, _, _, _, h1, h2, hS, _⟩ k hk => ((hS k).1 hk).elim (a.nos _ _ _ h1 k) (b.nos _ _ _ h2 k)⟩
theorem noS_rl {α : Type} (f : α → SP) (h : ∀ x, NoS (f x)) : ∀ l : List α, NoS (rl f l)
 | [] => by unfold rl; infer_instance
 | x :: l => by have := noS_rl f h l; have := h x; unfold rl; infer_instance
instance {α : Type} (f : α → SP) (l : List α) [h : ∀ x, NoS (f x)] : NoS (rl f l) := noS_rl f h l
instance (priority := 300) lend_take (A F G : SP) [t : Take A F G] [n : NoS A] : Lend A F := ⟨fun w S R h => by
 obtain ⟨S1, R1, S2, R2, h1, h2, hS, hR, _⟩ := t.le w S R h
 have e : S1 = fun _ => False := funext fun k => eq_false (n.nos _ _ _ h1 k)
 rw [e] at h1
 exact ⟨R1, h1, fun k hk => .inr ((hR k).2 (.inl hk))⟩⟩
abbrev KR : Ks := [.int .u64, .int .u64]
abbrev OpE := Dd × List (Ks.T KR)
abbrev opsE (s : Sl) (ps : List OpE) : SP := rarr s KD (ps.map Prod.fst) ^ rl (fun p : OpE => rarr (dR p.1) KR p.2) ps
def deedF (d : Dd) : Dd := (dK d, dS d, (if dL d > 200000 then 200000 else dL d), dU d, dA d, (if (dR d).len > 6 then (dR d).sub 0 6 (dR d).cap 2 else dR d), dC d)
def deedsF (most : Int) (ps : List OpE) : List OpE := (ps.take most.toNat).map fun p => (deedF p.1, p.2.take 6)
structure OkE (p : OpE) : Prop where
 l : -9223372036854775808 ≤ dL p.1 ∧ dL p.1 < 9223372036854775808
 u : U (dU p.1)
 a : U (dA p.1)
 c : 0 ≤ cH (dC p.1) ∧ U (cR (dC p.1))
 n : p.2.length ≤ 9223372036854775807
 cp : (dR p.1).len ≤ (dR p.1).cap
theorem okE_of {p : OpE} (h : ∀ k n, Lf.int k n ∈ Ks.mk KD p.1 → (Lit.int k n).wf = true) (hm : p.2.length ≤ maxLen) (hc : (dR p.1).len ≤ (dR p.1).cap) : OkE p where
 l := Wf.i (h .i64 (dL p.1) (List.mem_of_getElem? (i := 2) rfl))
 u := Wf.u (h .u64 (dU p.1) (List.mem_of_getElem? (i := 3) rfl))
 a := Wf.u (h .u64 (dA p.1) (List.mem_of_getElem? (i := 4) rfl))
 c := ⟨(Wf.u (h .u64 (cH (dC p.1)) (List.mem_of_getElem? (i := 10) rfl))).1, Wf.u (h .u64 (cR (dC p.1)) (List.mem_of_getElem? (i := 11) rfl))⟩
 n := hm
 cp := hc
theorem rd_dR {ps : List OpE} {i : Nat} {o : OpE} (h : ps[i]? = some o) : Rd (dR o.1) (rl (fun p : OpE => rarr (dR p.1) KR p.2) ps) KR o.2 := rd_rl h (rd_rarr _ _ _)
theorem rd_deed (p : OpE) (F : SP) (hc : (dR p.1).len ≤ (dR p.1).cap) (hl : (dR p.1).len = p.2.length) [t : Rd (dR p.1) F KR p.2] : Rd (dR (deedF p.1)) F KR (p.2.take 6) := by
 show Rd (if (dR p.1).len > 6 then (dR p.1).sub 0 6 (dR p.1).cap 2 else dR p.1) F KR (p.2.take 6)
 by_cases h : (dR p.1).len > 6
 ·rw [if_pos h]
  exact rd_sub (dR p.1) F KR p.2 0 6 (dR p.1).cap (by omega) (by omega) (by omega)
 ·rw [if_neg h, List.take_of_length_le (by omega)]; exact t
abbrev zD : List Lf := [.int .i64 0, .int .i64 0, .int .i64 0, .int .u64 0, .int .u64 0, .sl ⟨none, 0, 0⟩, .int .i64 0, .int .i64 0, .int .i64 0, .int .i64 0, .int .u64 0, .int .u64 0, .bool false, .int .i64 0, .int .i64 0]
theorem deed_tri (d : Dd) (xs : List (Ks.T KR)) (hc : (dR d).len ≤ (dR d).cap) : Tri Tryz.prog N_canterplay_Deed [.agg (Ks.mk KD d)] [.agg KD] (emp ^ rarr (dR d) KR xs) (fun r => pur (r = deedF d) emp) :=
 tri_0 (call_canterplay_Deed d) fun w0 S R h => by
  unfold W_canterplay_Deed
  have hs := (h.drop.rd (s := dR d)).2
  obtain ⟨R', hR'⟩ : ∃ R', R' = (if (dR d).len > 6 then (dR d).sub 0 6 (dR d).cap 2 else dR d) := ⟨_, rfl⟩
  obtain ⟨L', hL'⟩ : ∃ L', L' = (if dL d > 200000 then 200000 else dL d) := ⟨_, rfl⟩
  have e : deedF d = (dK d, dS d, L', dU d, dA d, R', dC d) := by rw [hL', hR']; rfl
  refine w_new h fun n1 w h => w_new h fun n2 w h => ?_
  have h : Own w0 S R w (blk n1 (Ks.mk KD d) ^ blk n2 zD ^ rarr (dR d) KR xs ^ emp) := h.fin
  refine w_join h (fun _ => blk n1 (Ks.mk KD (dK d, dS d, dL d, dU d, dA d, R', dC d)) ^ blk n2 zD ^ emp) (fun _ => True) (fun _ w _ h => ?_) ?_
  ·refine w_join h (fun _ => blk n1 (Ks.mk KD (dK d, dS d, L', dU d, dA d, R', dC d)) ^ blk n2 zD ^ emp) (fun _ => True) (fun _ w _ h => ?_) ?_
   ·refine w_ldAll (b := n1) (x := ((dK d, dS d, L', dU d, dA d, R', dC d) : Dd)) h rfl (w_setAll h (by rfl) fun w h => w_ldAll (b := n2) (x := ((dK d, dS d, L', dU d, dA d, R', dC d) : Dd)) h rfl ?_)
    exact Own.retP e.symm h.emp'
   ·refine w_ld (x := dL d) h rfl (w_ite (fun c => ?_) fun c => ?_)
    ·have c : dL d > 200000 := of_decide_eq_true c
     rw [if_pos c] at hL'
     refine w_setTo h n1 (Ks.mk KD (dK d, dS d, L', dU d, dA d, R', dC d)) rfl rfl (by rw [hL']; rfl) fun w h => ?_
     exact ⟨trivial, h.fin⟩
    ·have c : ¬ dL d > 200000 := of_decide_eq_false c
     rw [if_neg c] at hL'
     rw [hL']
     exact ⟨trivial, h⟩
  ·refine w_ld (x := dR d) h rfl (w_ite (fun c => ?_) fun c => ?_)
   ·have c : (((dR d).len : Nat) : Int) > 6 := of_decide_eq_true c
    have c2 : (dR d).len > 6 := by omega
    rw [if_pos c2] at hR'
    have hN : Nrm (dR d) := Nrm.long (h.rd (s := dR d)).1 (by omega)
    refine w_ld (x := dR d) h rfl (w_slcR (K := KR) (xs := xs) (s := dR d) h hN 0 6 (dR d).cap rfl rfl rfl rfl (by omega) (by omega) (by omega) (Nat.le_refl _) fun _ _ => ?_)
    rw [← hR']
    refine w_setTo h n1 (Ks.mk KD (dK d, dS d, dL d, dU d, dA d, R', dC d)) rfl rfl rfl fun w h => ?_
    exact ⟨trivial, h.fin⟩
   ·have c : ¬ (((dR d).len : Nat) : Int) > 6 := of_decide_eq_false c
    have c2 : ¬ (dR d).len > 6 := by omega
    rw [if_neg c2] at hR'
    rw [hR']
    exact ⟨trivial, h.fin⟩
theorem deedsF_at {ps : List OpE} {most : Int} {i : Nat} {p : OpE} (h : ps[i]? = some p) (hi : i < most.toNat) : (deedsF most ps)[i]? = some (deedF p.1, p.2.take 6) := by
 unfold deedsF
 rw [List.getElem?_map, List.getElem?_take, if_pos hi, h]; rfl
theorem deeds_tri (s : Sl) (ps : List OpE) (most : Int) (hm : 0 ≤ most ∧ most ≤ 1000) (hp : ∀ p ∈ ps, OkE p) : Tri Tryz.prog N_canterplay_Deeds [.lf (.sl s), .lf (.int .i64 most)] [.lf .sl] (emp ^ opsE s ps) (fun r => arr r KD ((deedsF most ps).map Prod.fst)) :=
 tri_0 (call_canterplay_Deeds s most) fun w0 S R h => by
  unfold W_canterplay_Deeds
  have h : Own w0 S R w0 (rarr s KD (ps.map Prod.fst) ^ rl (fun p : OpE => rarr (dR p.1) KR p.2) ps ^ emp) := h.fin
  have hsl := (h.rd (s := s)).2
  rw [List.length_map] at hsl
  have h := h.nil KD
  have h : Own w0 S R w0 (arr ⟨none, 0, 0⟩ KD ((deedsF 0 ps).map Prod.fst) ^ rarr s KD (ps.map Prod.fst) ^ rl (fun p : OpE => rarr (dR p.1) KR p.2) ps ^ emp) := h
  refine w_loopE (fun (y : Sl × Int) (_ : Unit) => arr y.1 KD ((deedsF y.2 ps).map Prod.fst) ^ rarr s KD (ps.map Prod.fst) ^ rl (fun p : OpE => rarr (dR p.1) KR p.2) ps ^ emp) (fun (y : Sl × Int) _ => 0 ≤ y.2 ∧ y.2 ≤ most) (fun (y : Sl × Int) _ => (most - y.2).toNat) () h ⟨by decide, hm.1⟩ ?_
  rintro K (y : Sl × Int) _ w ⟨h0, h1⟩ h next
  obtain ⟨r, i⟩ := y
  dsimp only at h0 h1 h ⊢
  refine w_ite (fun c => ?_) fun c => ?_
  ·have c : i < ps.length ∧ i < most := by
    have c : (decide (i < ((s.len : Nat) : Int)) && decide (i < most)) = true := c
    rw [Bool.and_eq_true, decide_eq_true_eq, decide_eq_true_eq] at c
    omega
   have hi : i.toNat < ps.length := by omega
   have hwi : IntKind.i64.wrap (i + 1) = i + 1 := wi (by omega) (by omega)
   have hin : (i + 1).toNat = i.toNat + 1 := by omega
   obtain ⟨p, hpi⟩ : ∃ p, ps[i.toNat]? = some p := ⟨_, List.getElem?_eq_getElem hi⟩
   have hpm : (ps.map Prod.fst)[i.toNat]? = some p.1 := by rw [List.getElem?_map, hpi]; rfl
   haveI := rd_dR hpi
   have hO := hp p (List.mem_of_getElem? hpi)
   refine w_idx (s := s) h h0 (by rw [List.length_map]; exact hi) (w_ldE h s i.toNat hpm rfl ?_)
   refine w_callL (A := emp) (Q := rarr (dR p.1) KR p.2) (deed_tri p.1 p.2 hO.cp) (h.le ((star_emp _).trans (star_comm _ _))) fun q w h => ?_
   obtain ⟨hq, h⟩ := h.purP; rw [hq]
   refine w_new h fun n6 w h => ?_
   have h := h.blkArr n6 KD [deedF p.1] rfl (by simp)
   have h : Own w0 S R w (arr ⟨some ⟨n6, 0⟩, 1, 1⟩ KD [deedF p.1] ^ _) := h
   have hlen : ((deedsF i ps).map Prod.fst).length ≤ i.toNat := by rw [List.length_map, deedsF, List.length_map, List.length_take]; omega
   refine w_app (K := KD) (s := r) (xs := (deedsF i ps).map Prod.fst) h rfl (by simp only [List.length_singleton]; omega) fun s' w _ h => ?_
   have e : (deedsF i ps).map Prod.fst ++ [deedF p.1] = (deedsF (i + 1) ps).map Prod.fst := by
    unfold deedsF
    rw [hin, List.take_add_one, hpi, List.map_append, List.map_append]; rfl
   rw [e] at h
   rw [hwi]
   exact next (s', i + 1) () w ⟨by show 0 ≤ i + 1; omega, by show i + 1 ≤ most; omega⟩ h.fin (by show (most - (i + 1)).toNat < (most - i).toNat; omega)
  ·have e : deedsF i ps = deedsF most ps := by
    unfold deedsF
    have c : ¬ (i < ps.length ∧ i < most) := fun hh => by
     have c : (decide (i < ((s.len : Nat) : Int)) && decide (i < most)) = false := c
     rw [decide_eq_true (by omega), decide_eq_true hh.2] at c; cases c
    by_cases h2 : i < most
    ·rw [List.take_of_length_le (by omega : ps.length ≤ i.toNat), List.take_of_length_le (by omega : ps.length ≤ most.toNat)]
    ·rw [show i = most by omega]
   rw [e] at h
   exact h.fin
end EgG

namespace EgH
open Arith ArithC TreeF FqM FqC SockC EgM EgA EgB EgC EgD EgE EgF
open SockM (Sk emitS doneS writeS loseS newS skFl skTso mayS)
open SockO (IvS)
open SockV (IvB)
theorem pump_ok {k : Int} {v : Mc} (hv : OkMc k v) {i : Nat} (hi : i < 8) {x : Sk} (hx : IvB k x) (hid : x.id = (i : Int)) (o : Ou) : OkMc k (pumpM v i x o).2 := by
 have h := pumpN_ok hv.un (fresh x + 1) ⟨x, v.q, v.l, o⟩ (⟨hx, hid, hv.q⟩ : OkPm k i ⟨x, v.q, v.l, o⟩)
 have h2 := upS_ok hv hi (x := (pumpF i v.now ⟨x, v.q, v.l, o⟩).v) h.v h.id
 exact { h2 with q := h.q }
theorem shut_ok {k : Int} {v : Mc} (hv : OkMc k v) (i : Nat) (o : Ou) : OkMc k (shutM v i o).2 := by
 have h := upN_ok hv i
 exact { h with q := hv.q.close _ }
theorem pull_ok {k : Int} {v : Mc} (hv : OkMc k v) (o : Ou) : OkMc k (pullF v o).2 := by
 have h := FqN.deq_ok hv.q hv.un (rates_U hv)
 unfold pullF
 split
 ·rename_i s q e; rw [e] at h; exact { hv with q := h }
 ·rename_i q e; rw [e] at h; exact { hv with q := h }
theorem set_ok {k : Int} {v : Mc} (hv : OkMc k v) {c : Cf} (hc : 0 ≤ cH c ∧ U (cR c)) : OkMc k (setM v c).2 := by
 have h := hv.q.set hc
 unfold setM
 split
 ·rename_i h0
  refine { hv with q := h, c := ?_ }
  unfold setF at h0
  by_cases hm : may c = true
  ·exact may_ok hm hc.1 hc.2
  ·rw [if_neg hm] at h0; cases h0
 ·exact { hv with q := h }
theorem one_ok {k : Int} {v : Mc} (hv : OkMc k v) (hk : k < 1000000) (d : Dd) (xs : List (Int × Int)) (o : Ou) : OkMc (k + 1) (oneM v d xs o).2.2 := by
 have h1 := OkMc_le hv (j := k + 1) (by omega) (by omega)
 have hc := hv.c.cap
 unfold oneM
 split
 ·exact h1
 ·rename_i hi
  have hi : 0 ≤ dS d ∧ dS d < 8 := Classical.not_not.1 hi
  have hi8 : (dS d).toNat < 8 := by omega
  split
  ·split
   ·have hn := SockV.new_ivB (dS d) (cMss v.c) (cCap v.c) ⟨by omega, hc.2⟩
    exact upS_ok h1 hi8 (ivB_le hn h1.kr.1 (by omega)) (by show dS d = _; omega)
   ·exact h1
  ·rename_i x hx
   obtain ⟨hxi, hxd, _⟩ := hv.so _ x hx
   split
   ·exact h1
   ·split
    ·exact shut_ok h1 _ _
    ·obtain ⟨a, b⟩ := told_ok hxi hk hv.un d xs
     split
     ·exact pump_ok h1 hi8 a (b.trans hxd) o
     ·exact upS_ok h1 hi8 a (b.trans hxd)
theorem do_ok {k : Int} {v : Mc} (hv : OkMc k v) (hk : k < 1000000) {d : Dd} (hd : OkD d) (xs : List (Int × Int)) : OkMc (k + 1) (doF v d xs).2 := by
 have h1 := OkMc_le hv (j := k + 1) (by omega) (by omega)
 have e : (doF v d xs).2 = (stepM v d xs).2.2 := by unfold doF; split <;> rfl
 rw [e]
 unfold stepM
 split
 ·have hn := hv.now
  have ha := hd.a
  unfold U at ha
  refine { h1 with now := ?_ }
  show 0 ≤ (moveF v.now (dA d)).2 ∧ (moveF v.now (dA d)).2 ≤ 4611686018427387904
  unfold moveF
  split
  ·exact hn
  ·split
   ·exact hn
   ·exact ⟨ha.1, by show dA d ≤ _; omega⟩
 ·split
  ·exact pull_ok h1 _
  ·split
   ·exact set_ok h1 hd.c
   ·split
    ·exact one_ok hv hk d xs ou0
    ·exact h1
theorem new_ok {c : Cf} (hc : OkC c) : OkMc 0 (newM c) where
 c := hc
 now := by show (0:Int) ≤ 0 ∧ (0:Int) ≤ 4611686018427387904; decide
 q := OkQ.new hc
 so := fun i x h => by cases h
 kr := by decide
theorem _root_.Go.X.Own.outR {w0 w : World} {S0 R0 : Nat → Prop} {F G : SP} (h : Own w0 S0 R0 w F) (r : Ks.T KOu) {o : Ou} [tk : TakeK EgF.outR r F o G] : r.2.2.2 = o.wd ∧ Own w0 S0 R0 w (arr r.1 KS o.dep ^ arr r.2.1 KS o.dr ^ arr r.2.2.1 KI o.ft ^ G) := by
 have h : Own w0 S0 R0 w (pur (r.2.2.2 = o.wd) (arr r.1 KS o.dep ^ arr r.2.1 KS o.dr ^ arr r.2.2.1 KI o.ft) ^ G) := h.le tk.le
 obtain ⟨hr, h⟩ := h.purP
 exact ⟨hr, h.fin⟩
theorem nil_rarr (A : SP) (K : Ks) : Le A (A ^ rarr ⟨none, 0, 0⟩ K []) :=
 (star_emp A).trans (star_mono Le.rfl fun w S R h => ⟨⟨⟨by simp [flat], fun _ => rfl, fun q hq => by cases hq⟩, rfl⟩, h.1, fun k => ⟨fun hk => absurd hk (h.2 k), fun hk => absurd rfl hk.2⟩⟩)
theorem do0_tri (b : Nat) (k : Int) (v : Mc) (hv : OkMc k v) (hk : k < 1000000) (d : Dd) (hd : OkD d) (hR : dR d = ⟨none, 0, 0⟩) :
  Tri Tryz.prog N_egress_Machine_Do [.lf (.ptr (some ⟨b, 0⟩)), .agg (Ks.mk KD d)] [.agg KOu, .lf (.int .i64)] (mach b v) (fun r => pur (r.2 = (doF v d []).1.2) (mach b (doF v d []).2 ^ outR r.1 (doF v d []).1.1)) :=
 (do_tri b k v hv hk d hd [] (by simp)).le (by rw [hR]; exact nil_rarr _ _) (fun _ => Le.rfl)
abbrev plainC : Cf := (3000, 15000, 100, 50, 10000000000, 0, false, 100000, 1000)
theorem plain_ok : OkC plainC := FqH.plain_ok
abbrev dOpen (s : Int) : Dd := (1, s, 0, 0, 0, ⟨none, 0, 0⟩, 0, 0, 0, 0, 0, 0, false, 0, 0)
abbrev dSend (s n : Int) : Dd := (2, s, n, 0, 0, ⟨none, 0, 0⟩, 0, 0, 0, 0, 0, 0, false, 0, 0)
abbrev dPull : Dd := (6, 0, 0, 0, 0, ⟨none, 0, 0⟩, 0, 0, 0, 0, 0, 0, false, 0, 0)
theorem dOpen_ok (s : Int) : OkD (dOpen s) := ⟨(by decide : (0:Int) < 9223372036854775808), U_lit 0, U_lit 0, (by decide : (0:Int) ≤ 0), U_lit 0⟩
theorem dSend_ok (s n : Int) (h : n < 9223372036854775808) : OkD (dSend s n) := ⟨h, U_lit 0, U_lit 0, (by decide : (0:Int) ≤ 0), U_lit 0⟩
theorem dPull_ok : OkD dPull := ⟨(by decide : (0:Int) < 9223372036854775808), U_lit 0, U_lit 0, (by decide : (0:Int) ≤ 0), U_lit 0⟩
abbrev aw1 : Mc := (doF (newM plainC) (dOpen 0) []).2
abbrev aw2 : Mc := (doF aw1 (dSend 0 1000) []).2
theorem awake_eq : (doF aw1 (dSend 0 1000) []).1.2 = 0 ∧ (doF aw2 dPull []).1.2 = 0 ∧ (doF aw2 dPull []).1.1.dep = [(0, 0, 1000, 0, false)] := by decide +kernel
theorem awake_tri : Tri Tryz.prog N_canterlaw26_awake [] [.lf .bool] emp (fun r => pur (r = true) emp) :=
 tri_0 call_canterlaw26_awake fun w0 S R h => by
  unfold W_canterlaw26_awake
  obtain ⟨h1, h2, h3⟩ := awake_eq
  have o0 := new_ok plain_ok
  have o1 := do_ok o0 (by decide) (dOpen_ok 0) []
  have o2 := do_ok o1 (by decide) (dSend_ok 0 1000 (by decide)) []
  refine w_call FqH.plain_tri (h.le (star_emp _)) fun r w h => ?_
  obtain ⟨hr, h⟩ := h.purP; rw [hr]
  refine w_call (EgE.new_tri plainC) h fun r w h => ?_
  obtain ⟨b, h⟩ := h.exP
  obtain ⟨hr, h⟩ := h.purP
  rw [if_pos FqH.plain_may] at hr h
  rw [hr]
  have h : Own w0 S R w (mach b (newM plainC) ^ emp) := h.fin
  refine w_join h (fun _ => mach b (newM plainC) ^ emp) (fun _ => True) (fun _ w _ h => ?_) ?_
  ·refine w_call (do0_tri b 0 (newM plainC) o0 (by decide) (dOpen 0) (dOpen_ok 0) rfl) h fun r w h => ?_
   obtain ⟨_, h⟩ := h.purP
   have h : Own w0 S R w (mach b aw1 ^ emp) := h.fin
   refine w_call (do0_tri b (0 + 1) aw1 o1 (by decide) (dSend 0 1000) (dSend_ok 0 1000 (by decide)) rfl) h fun r w h => ?_
   obtain ⟨hr, h⟩ := h.purP; rw [hr, h1]
   have h : Own w0 S R w (mach b aw2 ^ emp) := h.fin
   refine w_new h fun n8 w h => w_setAll h (by rfl) fun w h => ?_
   refine w_call (do0_tri b (0 + 1 + 1) aw2 o2 (by decide) dPull dPull_ok rfl) h fun r w h => ?_
   obtain ⟨⟨s1, s2, s3, wd⟩, e⟩ := r
   obtain ⟨hr, h⟩ := h.purP
   dsimp only at hr h ⊢
   rw [hr, h2]
   obtain ⟨_, h⟩ := h.outR (s1, s2, s3, wd)
   dsimp only at h
   rw [h3] at h
   have hl := (h.rd (s := s1)).2
   refine w_new h fun n10 w h => w_setAll h (by rfl) fun w h => w_ite (fun _ => ?_) fun c => (by cases c)
   refine w_ld (x := s1) h rfl (w_ite (fun _ => ?_) fun c => (by rw [hl] at c; cases c))
   refine w_ld (x := s1) h rfl (w_idx (s := s1) h (by decide) (by show 0 < 1; decide) (w_ldA h s1 0 2 ((0, 0, 1000, 0, false) : Sg) rfl rfl (by decide) (x := (1000 : Int)) rfl ?_))
   exact Own.retP rfl h.emp'
  ·refine w_ite (fun c => (by cases c)) fun _ => ?_
   refine w_call (queued_tri b (newM plainC)) h fun r w h => ?_
   obtain ⟨hr, h⟩ := h.purP; rw [hr]
   refine w_ite (fun c => (by cases c)) fun _ => ⟨trivial, h⟩
theorem outs_tri (a b : Ks.T KOu) (x y : Ou) (hx : x.dep.length ≤ 4294967296 ∧ x.dr.length ≤ 4294967296 ∧ x.ft.length ≤ 4294967296) (ha : a.2.2.2 = x.wd) (hb : b.2.2.2 = y.wd) : Tri Tryz.prog N_canterhelp_Out [.agg (Ks.mk KOu a), .agg (Ks.mk KOu b)] [.lf .bool]
  (emp ^ ((rarr a.1 KS x.dep ^ rarr a.2.1 KS x.dr ^ rarr a.2.2.1 KI x.ft) ^ rarr b.1 KS y.dep ^ rarr b.2.1 KS y.dr ^ rarr b.2.2.1 KI y.ft)) (fun r => pur (r = true ↔ x = y) emp) :=
 tri_0 (call_canterhelp_Out a b) fun w0 S R h => by
  unfold W_canterhelp_Out
  have hxy : x = y ↔ x.dep = y.dep ∧ x.dr = y.dr ∧ x.ft = y.ft ∧ x.wd = y.wd := by
   cases x; cases y; simp
  refine w_new h fun n1 w h => w_new h fun n2 w h => w_ld (x := a.1) h rfl (w_ld (x := b.1) h rfl ?_)
  have h : Own w0 S R w (emp ^ rarr a.1 KS x.dep ^ rarr b.1 KS y.dep ^ rarr a.2.1 KS x.dr ^ rarr b.2.1 KS y.dr ^ rarr a.2.2.1 KI x.ft ^ rarr b.2.2.1 KI y.ft ^ blk n1 (Ks.mk KOu a) ^ blk n2 (Ks.mk KOu b) ^ emp) := h.fin
  refine w_callL (A := emp) (Q := rarr a.1 KS x.dep ^ rarr b.1 KS y.dep) (Segs.seg_plain_tri a.1 b.1 x.dep y.dep hx.1) h fun r w h => ?_
  obtain ⟨h1, h⟩ := h.purP
  refine w_ite (fun c => ?_) fun c => ?_
  ·refine w_ld (x := a.2.1) h rfl (w_ld (x := b.2.1) h rfl ?_)
   refine w_callL (A := emp) (Q := rarr a.2.1 KS x.dr ^ rarr b.2.1 KS y.dr) (Segs.seg_plain_tri a.2.1 b.2.1 x.dr y.dr hx.2.1) h fun r w h => ?_
   obtain ⟨h2, h⟩ := h.purP
   refine w_ite (fun c2 => ?_) fun c2 => ?_
   ·refine w_ld (x := a.2.2.1) h rfl (w_ld (x := b.2.2.1) h rfl ?_)
    refine w_callL (A := emp) (Q := rarr a.2.2.1 KI x.ft ^ rarr b.2.2.1 KI y.ft) (Ints.int_plain_tri a.2.2.1 b.2.2.1 x.ft y.ft hx.2.2) h fun r w h => ?_
    obtain ⟨h3, h⟩ := h.purP
    refine w_ite (fun c3 => ?_) fun c3 => ?_
    ·refine w_ld (x := a.2.2.2) h rfl (w_ld (x := b.2.2.2) h rfl ?_)
     refine Own.retP ?_ h.emp'
     rw [hxy, ha, hb, beq_iff_eq]
     exact ⟨fun e => ⟨h1.1 c, h2.1 c2, h3.1 c3, e⟩, fun e => e.2.2.2⟩
    ·exact Own.retP ⟨fun e => (by cases e), fun e => (by rw [h3.2 (hxy.1 e).2.2.1] at c3; cases c3)⟩ h.emp'
   ·exact Own.retP ⟨fun e => (by cases e), fun e => (by rw [h2.2 (hxy.1 e).2.1] at c2; cases c2)⟩ h.emp'
  ·exact Own.retP ⟨fun e => (by cases e), fun e => (by rw [h1.2 (hxy.1 e).1] at c; cases c)⟩ h.emp'
end EgH

namespace EgI
open Arith ArithC TreeF FqM FqC SockC EgM EgA EgB EgC EgD EgE EgF EgG EgH
open SockM (Sk emitS doneS writeS loseS newS skFl skTso mayS)
theorem deedF_ok {p : OpE} (h : OkE p) : OkD (deedF p.1) where
 l := by
  show (if dL p.1 > 200000 then 200000 else dL p.1) < 9223372036854775808
  split <;> omega
 u := h.u
 a := h.a
 c := h.c
theorem do_step (v : Mc) (d : Dd) (xs : List (Int × Int)) : (doF v d xs).2 = (stepM v d xs).2.2 := by unfold doF; split <;> rfl
theorem do_err (v : Mc) (d : Dd) (xs : List (Int × Int)) : (doF v d xs).1.2 = (stepM v d xs).1 := by
 unfold doF
 by_cases h : (stepM v d xs).1 ≠ 0
 ·rw [if_pos h]
 ·rw [if_neg h]; exact (Classical.not_not.1 h).symm
theorem move_r (now a : Int) : ((moveF now a).1 = 0 ↔ now ≤ a ∧ a ≤ 4611686018427387904) ∧ ((moveF now a).1 = 0 → (moveF now a).2 = a) ∧ ((moveF now a).1 ≠ 0 → (moveF now a).2 = now) := by
 unfold moveF
 split
 ·exact ⟨⟨fun h => (by cases h), fun h => (by omega)⟩, fun h => (by cases h), fun _ => rfl⟩
 ·split
  ·exact ⟨⟨fun h => (by cases h), fun h => (by omega)⟩, fun h => (by cases h), fun _ => rfl⟩
  ·exact ⟨⟨fun _ => (by omega), fun _ => rfl⟩, fun _ => rfl, fun h => absurd rfl h⟩
end EgI

namespace EgJ
open Arith ArithC TreeF FqM FqC SockC EgM EgA EgB EgC EgD EgE EgF EgG EgH EgI
open SockM (Sk emitS doneS writeS loseS newS skFl skTso mayS)
open SockO (IvS)
open SockV (IvB)
abbrev b0 (c : Ct) : Int := c.2.1
abbrev b1 (c : Ct) : Int := c.2.2.1
abbrev b2 (c : Ct) : Int := c.2.2.2.1
abbrev b3 (c : Ct) : Int := c.2.2.2.2.1
abbrev b4 (c : Ct) : Int := c.2.2.2.2.2.1
abbrev b5 (c : Ct) : Int := c.2.2.2.2.2.2.1
end EgJ

namespace EgK
open Arith ArithC TreeF FqM FqC SockC EgM EgA EgB EgC EgD EgE EgF EgG EgH EgI EgJ
open SockM (Sk emitS doneS writeS loseS newS skFl skTso mayS)
section
variable {w0 w : World} {S R : Nat → Prop}
end
abbrev c8 (c : Ct) : List Int := [c.1, b0 c, b1 c, b2 c, b3 c, b4 c, b5 c, cWt c]
end EgK

namespace EgP
open Arith ArithC TreeF FqM FqC SockC EgM EgA EgB EgC EgD EgE EgF EgG EgH EgI EgJ EgK
open SockM (Sk emitS doneS writeS loseS newS skFl skTso mayS)
section
variable {w0 w : World} {S R : Nat → Prop}
theorem w_deedG {b : Nat} {v : Mc} {r4 s : Sl} {ps : List OpE} {ds : List Dd} {k : Int} {F G : SP} [NoR G] (h : Own w0 S R w F) [tk : Take (mach b v ^ arr r4 KD ds ^ opsE s ps) F G] (hv : OkMc k v) (hk : k < 1000000) (hp : ∀ p ∈ ps, OkE p) {i : Nat} {p : OpE} (hpi : ps[i]? = some p)
  {A : Rs.T [.agg KOu, .lf (.int .i64)] → WP} (hA : ∀ (r : Rs.T [.agg KOu, .lf (.int .i64)]) (w : World), r.2 = (doF v (deedF p.1) (p.2.take 6)).1.2 → Own w0 S R w (mach b (doF v (deedF p.1) (p.2.take 6)).2 ^ outR r.1 (doF v (deedF p.1) (p.2.take 6)).1.1 ^ G ^ arr r4 KD ds ^ opsE s ps) → A r w) :
  call Tryz.prog N_egress_Machine_Do [.lf (.ptr (some ⟨b, 0⟩)), .agg (Ks.mk KD (deedF p.1))] [.agg KOu, .lf (.int .i64)] A w := by
 have h : Own w0 S R w ((mach b v ^ arr r4 KD ds ^ opsE s ps) ^ G) := h.le tk.le
 have h : Own w0 S R w (mach b v ^ G ^ arr r4 KD ds ^ opsE s ps) := h.fin
 have hO := hp p (List.mem_of_getElem? hpi)
 haveI := rd_dR hpi
 have hdl := (h.rd (s := dR p.1)).2
 haveI := rd_deed p (rl (fun p : OpE => rarr (dR p.1) KR p.2) ps) hO.cp hdl
 obtain ⟨d, hd⟩ : ∃ d, d = deedF p.1 := ⟨_, rfl⟩
 have hD := deedF_ok hO
 rw [← hd] at hD this hA ⊢
 have hx6 : (p.2.take 6).length ≤ 4294967296 := by rw [List.length_take]; omega
 refine w_callL (A := mach b v) (Q := rarr (dR d) KR (p.2.take 6)) (do_tri b k v hv hk d hD (p.2.take 6) hx6) h fun r w h => ?_
 obtain ⟨hre, h⟩ := h.purP
 exact hA r w hre (h.le (star_assoc _ _ _))
end
theorem told_same {x : Sk} {now : Int} {d : Dd} {xs : List (Int × Int)} (h : (toldF x now d xs).1 ≠ 0) : (toldF x now d xs).2 = x := by
 unfold toldF at h ⊢
 split
 ·rename_i e
  rw [if_pos e] at h
  unfold writeS SockA.wrF at h ⊢
  split
  ·cases x; rfl
  ·split
   ·cases x; rfl
   ·rename_i h1 h2
    rw [if_neg h1, if_neg h2] at h
    exact absurd rfl h
 ·rename_i e
  rw [if_neg e] at h
  split
  ·rename_i e3
   rw [if_pos e3] at h
   unfold SockL.ackS at h ⊢
   split
   ·rename_i h1; rw [if_pos h1] at h; exact absurd rfl h
   ·rfl
  ·rename_i e3
   rw [if_neg e3] at h
   split
   ·rename_i e4; rw [if_pos e4] at h; exact absurd rfl h
   ·rename_i e4
    rw [if_neg e4] at h
    unfold doneS at h ⊢
    split
    ·rfl
    ·rename_i h1; rw [if_neg h1] at h; exact absurd rfl h
theorem upL_have {α : Type} {l : Nat → α} {i : Nat} {x : α} (h : l i = x) : EgM.upL l i x = l := by rw [← h]; exact EgM.upL_id l i
theorem refused {v : Mc} {d : Dd} {xs : List (Int × Int)} (h : (doF v d xs).1.2 ≠ 0) : (doF v d xs).2 = v ∧ (doF v d xs).1.1 = ou0 := by
 have h2 : (stepM v d xs).1 ≠ 0 := by rw [← do_err]; exact h
 refine ⟨?_, by unfold doF; rw [if_pos h2]⟩
 rw [do_step]
 unfold stepM at h2 ⊢
 split
 ·rename_i e
  rw [if_pos e] at h2
  have := (move_r v.now (dA d)).2.2 h2
  show ({ v with now := (moveF v.now (dA d)).2 } : Mc) = v
  rw [this]
 ·rename_i e
  rw [if_neg e] at h2
  split
  ·rename_i e6; rw [if_pos e6] at h2; exact absurd rfl h2
  ·rename_i e6
   rw [if_neg e6] at h2
   split
   ·rename_i e8
    rw [if_pos e8] at h2
    have h2 : (setM v (dC d)).1 ≠ 0 := h2
    show (setM v (dC d)).2 = v
    unfold setM setF at h2 ⊢
    by_cases hm : may (dC d) = true
    ·exfalso; apply h2; simp [hm]
    ·simp [hm]
   ·rename_i e8
    rw [if_neg e8] at h2
    split
    ·rename_i e1
     rw [if_pos e1] at h2
     unfold oneM at h2 ⊢
     split
     ·rfl
     ·rename_i hs
      rw [if_neg hs] at h2
      split
      ·rename_i hn
       rw [hn] at h2
       dsimp only at h2
       split
       ·rename_i e1; rw [if_pos e1] at h2; exact absurd rfl h2
       ·rfl
      ·rename_i x hx
       rw [hx] at h2
       dsimp only at h2
       split
       ·rfl
       ·rename_i e1
        rw [if_neg e1] at h2
        split
        ·rename_i e9; rw [if_pos e9] at h2; exact absurd rfl h2
        ·rename_i e9
         rw [if_neg e9] at h2
         split
         ·rename_i e0; rw [if_pos e0] at h2; exact absurd rfl h2
         ·rename_i e0
          show ({ v with so := EgM.upL v.so (dS d).toNat (some (toldF x v.now d xs).2) } : Mc) = v
          rw [told_same e0, upL_have hx]
    ·rfl
def fill {α : Type} (f : Nat → α) (z : α) (y : Nat) : List α := [if 0 < y then f 0 else z, if 1 < y then f 1 else z, if 2 < y then f 2 else z, if 3 < y then f 3 else z, if 4 < y then f 4 else z, if 5 < y then f 5 else z, if 6 < y then f 6 else z, if 7 < y then f 7 else z]
theorem fill_at {α : Type} (f : Nat → α) (z : α) {y : Nat} (h : y < 8) : (fill f z y)[y]? = some z := by
 rcases lt8 h with rfl | rfl | rfl | rfl | rfl | rfl | rfl | rfl <;> rfl
theorem fill_set {α : Type} (f : Nat → α) (z : α) {y : Nat} (h : y < 8) : (fill f z y).set y (f y) = fill f z (y + 1) := by
 rcases lt8 h with rfl | rfl | rfl | rfl | rfl | rfl | rfl | rfl <;> rfl
theorem fill_all {α : Type} (f : Nat → α) (z : α) {y : Nat} (h : y < 8) : (fill f z 8)[y]? = some (f y) := by
 rcases lt8 h with rfl | rfl | rfl | rfl | rfl | rfl | rfl | rfl <;> rfl
abbrev KS4 : Ks := [.int .u64, .int .u64, .int .u64, .int .i64]
abbrev fS (v : Mc) (j : Nat) : Ks.T KS4 := stO (openS v (j : Int))
abbrev fM (v : Mc) (j : Nat) : Ks.T K_i2u6b2 := mdO (openS v (j : Int))
abbrev fC (v : Mc) (j : Nat) : Ks.T KCt := countL v.l (j : Int)
theorem refuses_tri (d : Cf) (s : Sl) (ps : List OpE) (hd : 0 ≤ cH d ∧ U (cR d)) (hp : ∀ p ∈ ps, OkE p) : Tri Tryz.prog N_canterlaw26_EgressRefuses [.agg (Ks.mk KC d), .lf (.sl s)] [.lf .bool] (opsE s ps) (fun r => pur (r = true) emp) :=
 tri_0 (call_canterlaw26_EgressRefuses d s) fun w0 S R h => by
  unfold W_canterlaw26_EgressRefuses
  have h : Own w0 S R w0 (opsE s ps) := h
  have hsl := (h.rd (s := s)).2
  rw [List.length_map] at hsl
  refine w_new h fun n1 w h => w_ldAll (b := n1) (x := d) h rfl ?_
  have h : Own w0 S R w (emp ^ opsE s ps) := h.fin
  refine w_call (FqI.config_tri d) h fun r w h => ?_
  obtain ⟨hr, h⟩ := h.purP; rw [hr]
  refine w_call (EgE.new_tri (FqI.configF d)) h fun r w h => ?_
  obtain ⟨b, h⟩ := h.exP
  obtain ⟨hr, h⟩ := h.purP
  rw [if_pos (FqI.config_may d)] at hr h
  rw [hr]
  refine w_call awake_tri (h.le ((star_emp _).trans (star_comm _ _))) fun r w h => ?_
  obtain ⟨hr, h⟩ := h.purP; rw [hr]
  refine w_ite (fun c => (by cases c)) fun _ => ?_
  have h : Own w0 S R w (mach b (newM (FqI.configF d)) ^ emp ^ opsE s ps) := h.fin
  refine w_callL (A := emp) (Q := opsE s ps) (deeds_tri s ps 60 (by decide) hp) h fun r4 w h => ?_
  have h : Own w0 S R w (mach b (newM (FqI.configF d)) ^ arr r4 KD ((deedsF 60 ps).map Prod.fst) ^ opsE s ps) := h.fin
  have hr4 := (h.rd (s := r4)).2
  rw [List.length_map, deedsF, List.length_map, List.length_take] at hr4
  refine w_loopE (fun (_ : Int) (v : Mc) => mach b v ^ arr r4 KD ((deedsF 60 ps).map Prod.fst) ^ opsE s ps) (fun (y : Int) v => (0 ≤ y ∧ y ≤ 60) ∧ OkMc y v) (fun (y : Int) _ => (60 - y).toNat) (newM (FqI.configF d)) h ⟨by decide, new_ok (FqI.config_ok hd.1 hd.2)⟩ ?_
  rintro K (i : Int) v w ⟨hir, hv⟩ h next
  refine w_ite (fun c => ?_) fun c => Own.retP rfl h.emp'
  have c : i < ((r4.len : Nat) : Int) := of_decide_eq_true c
  have hi : i.toNat < ps.length ∧ i.toNat < (60 : Int).toNat := by
   have : (60 : Int).toNat = 60 := rfl
   omega
  have hwi : IntKind.i64.wrap (i + 1) = i + 1 := wi (by omega) (by omega)
  obtain ⟨p, hpi⟩ : ∃ p, ps[i.toNat]? = some p := ⟨_, List.getElem?_eq_getElem hi.1⟩
  have hdi := deedsF_at hpi hi.2
  have hdm : ((deedsF 60 ps).map Prod.fst)[i.toNat]? = some (deedF p.1) := by rw [List.getElem?_map, hdi]; rfl
  have hlt : i.toNat < ((deedsF 60 ps).map Prod.fst).length := (List.getElem?_eq_some_iff.1 hdm).1
  have hO := hp p (List.mem_of_getElem? hpi)
  have hD := deedF_ok hO
  refine w_call (mnow_tri b v) h fun r w h => ?_
  obtain ⟨hr, h⟩ := h.purP; rw [hr]
  refine w_call (queued_tri b v) h fun r w h => ?_
  obtain ⟨hr, h⟩ := h.purP; rw [hr]
  refine w_new h fun n11 w h => w_new h fun n12 w h => w_new h fun n13 w h => ?_
  have h := h.blkArr n11 KS4 (fill (fS v) (0, 0, 0, 0) 0) rfl (by simp [fill])
  have h : Own w0 S R w (arr ⟨some ⟨n11, 0⟩, 8, 8⟩ KS4 (fill (fS v) (0, 0, 0, 0) 0) ^ _) := h
  have h := h.blkArr n12 K_i2u6b2 (fill (fM v) (0, 0, 0, 0, 0, 0, 0, 0, false, false) 0) rfl (by simp [fill])
  have h : Own w0 S R w (arr ⟨some ⟨n12, 0⟩, 8, 8⟩ K_i2u6b2 (fill (fM v) (0, 0, 0, 0, 0, 0, 0, 0, false, false) 0) ^ _) := h
  have h := h.blkArr n13 KCt (fill (fC v) ct0 0) rfl (by simp [fill])
  have h : Own w0 S R w (arr ⟨some ⟨n13, 0⟩, 8, 8⟩ KCt (fill (fC v) ct0 0) ^ _) := h
  obtain ⟨A, hA⟩ : ∃ A : Nat → SP, A = fun y => arr ⟨some ⟨n11, 0⟩, 8, 8⟩ KS4 (fill (fS v) (0, 0, 0, 0) y) ^ arr ⟨some ⟨n12, 0⟩, 8, 8⟩ K_i2u6b2 (fill (fM v) (0, 0, 0, 0, 0, 0, 0, 0, false, false) y) ^ arr ⟨some ⟨n13, 0⟩, 8, 8⟩ KCt (fill (fC v) ct0 y) ^ mach b v ^ arr r4 KD ((deedsF 60 ps).map Prod.fst) ^ opsE s ps := ⟨_, rfl⟩
  have h : Own w0 S R w (arr ⟨some ⟨n11, 0⟩, 8, 8⟩ KS4 (fill (fS v) (0, 0, 0, 0) 0) ^ arr ⟨some ⟨n12, 0⟩, 8, 8⟩ K_i2u6b2 (fill (fM v) (0, 0, 0, 0, 0, 0, 0, 0, false, false) 0) ^ arr ⟨some ⟨n13, 0⟩, 8, 8⟩ KCt (fill (fC v) ct0 0) ^ mach b v ^ arr r4 KD ((deedsF 60 ps).map Prod.fst) ^ opsE s ps) := h.fin
  have h : Own w0 S R w (A (0 : Int).toNat) := by rw [hA]; exact h
  refine w_loop (fun y : Int => A y.toNat) (fun y : Int => 0 ≤ y ∧ y ≤ 8) (fun y : Int => (8 - y).toNat) h (by decide) ?_
  rintro (y : Int) w hy h
  rw [hA] at h
  dsimp only at h
  refine w_ite (fun c => ?_) fun c => ?_
  ·have c : y < 8 := of_decide_eq_true c
   obtain ⟨j, hj⟩ : ∃ j : Nat, y = (j : Int) := ⟨y.toNat, by omega⟩
   have hj8 : j < 8 := by omega
   have hyj : y.toNat = j := by omega
   have hw1 : IntKind.i64.wrap (y + 1) = y + 1 := wi (by omega) (by omega)
   rw [hyj] at h
   refine w_call (state_tri b _ v hv y) h fun r w h => ?_
   obtain ⟨hr, h⟩ := h.purP; rw [hr]
   refine ⟨by omega, w_stA h ⟨some ⟨n11, 0⟩, 8, 8⟩ j 0 (0, 0, 0, 0) (fS v j) (fill_at _ _ hj8) (by rw [hyj]; rfl) (by show 0 + 4 ≤ 4; decide) (List.cons_ne_nil _ _) (by rw [hj]; rfl) fun w h => ?_⟩
   rw [fill_set (fS v) _ hj8] at h
   refine w_call (model_tri b v y) h fun r w h => ?_
   obtain ⟨hr, h⟩ := h.purP; rw [hr]
   refine ⟨by omega, w_stA h ⟨some ⟨n12, 0⟩, 8, 8⟩ j 0 (0, 0, 0, 0, 0, 0, 0, 0, false, false) (fM v j) (fill_at _ _ hj8) (by rw [hyj]; rfl) (by show 0 + 10 ≤ 10; decide) (List.cons_ne_nil _ _) (by rw [hj]; rfl) fun w h => ?_⟩
   rw [fill_set (fM v) _ hj8] at h
   refine w_call (mcount_tri b v y) h fun r w h => ?_
   obtain ⟨hr, h⟩ := h.purP; rw [hr]
   refine ⟨by omega, w_stA h ⟨some ⟨n13, 0⟩, 8, 8⟩ j 0 ct0 (fC v j) (fill_at _ _ hj8) (by rw [hyj]; rfl) (by show 0 + 8 ≤ 8; decide) (List.cons_ne_nil _ _) (by rw [hj]; rfl) fun w h => ?_⟩
   rw [fill_set (fC v) _ hj8] at h
   rw [hw1]
   refine ⟨⟨⟨by omega, by omega⟩, ?_⟩, by show (8 - (y + 1)).toNat < (8 - y).toNat; omega⟩
   rw [hA]
   dsimp only
   rw [show (y + 1).toNat = j + 1 by omega]
   exact h.fin
  ·have c : ¬ y < 8 := of_decide_eq_false c
   rw [show y.toNat = 8 by omega] at h
   refine w_idx (s := r4) h hir.1 hlt (w_ldE h r4 i.toNat hdm rfl ?_)
   refine w_deedG (r4 := r4) (s := s) (ds := (deedsF 60 ps).map Prod.fst) h hv (by omega) hp hpi fun r w hre h => ?_
   obtain ⟨⟨t1, t2, t3, t4⟩, re⟩ := r
   dsimp only at hre h ⊢
   have hv' := do_ok hv (by omega) hD (p.2.take 6)
   refine w_new h fun n22 w h => w_setTo h n22 (Ks.mk KOu (t1, t2, t3, t4)) rfl rfl rfl fun w h => ?_
   refine w_ite (fun c0 => ?_) fun c0 => ?_
   ·rw [hwi]
    exact next (i + 1) (doF v (deedF p.1) (p.2.take 6)).2 w ⟨⟨by omega, by omega⟩, hv'⟩ h.fin (by show (60 - (i + 1)).toNat < (60 - i).toNat; omega)
   ·have c0 : ¬ re = 0 := by simpa using c0
    obtain ⟨s1, s2⟩ := refused (v := v) (d := deedF p.1) (xs := p.2.take 6) (by rw [← hre]; exact c0)
    rw [s1] at hv'
    rw [s1, s2] at h
    obtain ⟨hwd, h⟩ := h.outR (t1, t2, t3, t4)
    dsimp only at hwd h
    have h : Own w0 S R w (arr t1 KS ou0.dep ^ arr t2 KS ou0.dr ^ arr t3 KI ou0.ft ^ blk n22 (Ks.mk KOu (t1, t2, t3, t4)) ^ arr ⟨some ⟨n11, 0⟩, 8, 8⟩ KS4 (fill (fS v) (0, 0, 0, 0) 8) ^ arr ⟨some ⟨n12, 0⟩, 8, 8⟩ K_i2u6b2 (fill (fM v) (0, 0, 0, 0, 0, 0, 0, 0, false, false) 8) ^ arr ⟨some ⟨n13, 0⟩, 8, 8⟩ KCt (fill (fC v) ct0 8) ^ mach b v ^ arr r4 KD ((deedsF 60 ps).map Prod.fst) ^ opsE s ps) := h.fin
    refine w_join h (fun _ => arr ⟨some ⟨n11, 0⟩, 8, 8⟩ KS4 (fill (fS v) (0, 0, 0, 0) 8) ^ arr ⟨some ⟨n12, 0⟩, 8, 8⟩ K_i2u6b2 (fill (fM v) (0, 0, 0, 0, 0, 0, 0, 0, false, false) 8) ^ arr ⟨some ⟨n13, 0⟩, 8, 8⟩ KCt (fill (fC v) ct0 8) ^ mach b v ^ arr r4 KD ((deedsF 60 ps).map Prod.fst) ^ opsE s ps) (fun z : Bool => z = false) (fun z w hz h => ?_) ?_
    rotate_left
    ·refine w_call (mnow_tri b v) h fun r w h => ?_
     obtain ⟨hr, h⟩ := h.purP; rw [hr]
     refine w_ite (fun c => (by simp at c)) fun _ => w_call (queued_tri b v) h fun r w h => ?_
     obtain ⟨hr, h⟩ := h.purP; rw [hr]
     refine w_ite (fun c => (by simp at c)) fun _ => w_ldAll (b := n22) (x := ((t1, t2, t3, t4) : Ks.T KOu)) h rfl ?_
     refine w_callL (A := emp) (Q := (rarr t1 KS ou0.dep ^ rarr t2 KS ou0.dr ^ rarr t3 KI ou0.ft) ^ rarr ⟨none, 0, 0⟩ KS [] ^ rarr ⟨none, 0, 0⟩ KS [] ^ rarr ⟨none, 0, 0⟩ KI []) (outs_tri (t1, t2, t3, t4) (⟨none, 0, 0⟩, ⟨none, 0, 0⟩, ⟨none, 0, 0⟩, 0) ou0 ou0 (by decide) hwd rfl) (h.le ((star_emp _).trans (star_comm _ _))) fun r w h => ?_
     obtain ⟨hr, h⟩ := h.purP
     rw [hr.2 rfl]
     exact ⟨rfl, h.fin⟩
    rw [hz]
    refine w_ite (fun c => (by cases c)) fun _ => ?_
    refine w_loop (fun _ : Int => arr ⟨some ⟨n11, 0⟩, 8, 8⟩ KS4 (fill (fS v) (0, 0, 0, 0) 8) ^ arr ⟨some ⟨n12, 0⟩, 8, 8⟩ K_i2u6b2 (fill (fM v) (0, 0, 0, 0, 0, 0, 0, 0, false, false) 8) ^ arr ⟨some ⟨n13, 0⟩, 8, 8⟩ KCt (fill (fC v) ct0 8) ^ mach b v ^ arr r4 KD ((deedsF 60 ps).map Prod.fst) ^ opsE s ps) (fun y : Int => 0 ≤ y ∧ y ≤ 8) (fun y : Int => (8 - y).toNat) h (by decide) ?_
    rintro (y : Int) w hy h
    refine w_ite (fun c => ?_) fun c => ?_
    ·have c : y < 8 := of_decide_eq_true c
     obtain ⟨j, hj⟩ : ∃ j : Nat, y = (j : Int) := ⟨y.toNat, by omega⟩
     have hj8 : j < 8 := by omega
     have hyj : y.toNat = j := by omega
     have hw1 : IntKind.i64.wrap (y + 1) = y + 1 := wi (by omega) (by omega)
     refine w_call (state_tri b _ v hv' y) h fun r w h => ?_
     obtain ⟨hr, h⟩ := h.purP; rw [hr]
     obtain ⟨X, hX⟩ : ∃ X : Ks.T KS4, X = stO (openS v y) := ⟨_, rfl⟩
     have hX2 : fS v j = X := by rw [hX, hj]
     rw [← hX]
     refine w_new h fun n32 w h => w_setTo h n32 (Ks.mk KS4 X) rfl rfl rfl fun w h => ?_
     refine w_call (model_tri b v y) h fun r w h => ?_
     obtain ⟨hr, h⟩ := h.purP; rw [hr]
     obtain ⟨M, hM⟩ : ∃ X : Ks.T K_i2u6b2, X = mdO (openS v y) := ⟨_, rfl⟩
     have hM2 : fM v j = M := by rw [hM, hj]
     rw [← hM]
     refine w_new h fun n34 w h => w_setTo h n34 (Ks.mk K_i2u6b2 M) rfl rfl rfl fun w h => ?_
     obtain ⟨C, hC⟩ : ∃ X : Ks.T KCt, X = countL v.l y := ⟨_, rfl⟩
     have hC2 : fC v j = C := by rw [hC, hj]
     have h : Own w0 S R w (blk n34 (Ks.mk K_i2u6b2 M) ^ blk n32 (Ks.mk KS4 X) ^ arr ⟨some ⟨n11, 0⟩, 8, 8⟩ KS4 (fill (fS v) (0, 0, 0, 0) 8) ^ arr ⟨some ⟨n12, 0⟩, 8, 8⟩ K_i2u6b2 (fill (fM v) (0, 0, 0, 0, 0, 0, 0, 0, false, false) 8) ^ arr ⟨some ⟨n13, 0⟩, 8, 8⟩ KCt (fill (fC v) ct0 8) ^ mach b v ^ arr r4 KD ((deedsF 60 ps).map Prod.fst) ^ opsE s ps) := h.fin
     refine w_join h (fun _ => arr ⟨some ⟨n11, 0⟩, 8, 8⟩ KS4 (fill (fS v) (0, 0, 0, 0) 8) ^ arr ⟨some ⟨n12, 0⟩, 8, 8⟩ K_i2u6b2 (fill (fM v) (0, 0, 0, 0, 0, 0, 0, 0, false, false) 8) ^ arr ⟨some ⟨n13, 0⟩, 8, 8⟩ KCt (fill (fC v) ct0 8) ^ mach b v ^ arr r4 KD ((deedsF 60 ps).map Prod.fst) ^ opsE s ps) (fun z : Bool => z = false) (fun z w hz h => ?_) ?_
     ·rw [hz]
      refine w_ite (fun c => (by cases c)) fun _ => ?_
      rw [hw1]
      exact ⟨⟨⟨by omega, by omega⟩, h⟩, by show (8 - (y + 1)).toNat < (8 - y).toNat; omega⟩
     ·refine w_drw h fun w h => w_ldAll (b := n32) (x := X) h rfl ⟨by omega, ?_⟩
      refine w_ldE h ⟨some ⟨n11, 0⟩, 8, 8⟩ j (fill_all (fS v) (0, 0, 0, 0) hj8) (by rw [hyj]; rfl) ?_
      rw [hX2]
      refine w_ite (fun c => (by simp at c)) fun _ => w_ldAll (b := n34) (x := M) h rfl ⟨by omega, ?_⟩
      refine w_ldE h ⟨some ⟨n12, 0⟩, 8, 8⟩ j (fill_all (fM v) (0, 0, 0, 0, 0, 0, 0, 0, false, false) hj8) (by rw [hyj]; rfl) ?_
      rw [hM2]
      refine w_ite (fun c => (by simp at c)) fun _ => ⟨by omega, ?_⟩
      refine w_ldE h ⟨some ⟨n13, 0⟩, 8, 8⟩ j (fill_all (fC v) ct0 hj8) (by rw [hyj]; rfl) ?_
      rw [hC2]
      refine w_call (mcount_tri b v y) h fun r w h => ?_
      obtain ⟨hr, h⟩ := h.purP; rw [hr, ← hC]
      refine w_chkA h ⟨some ⟨n13, 0⟩, 8, 8⟩ j 0 C (by rw [fill_all _ _ hj8, hC2]) (by rw [hyj]; rfl) (Nat.zero_le _) rfl ?_
      exact ⟨by simp, h.fin⟩
    ·rw [hwi]
     exact next (i + 1) v w ⟨⟨by omega, by omega⟩, hv'⟩ h.fin (by show (60 - (i + 1)).toNat < (60 - i).toNat; omega)
end EgP

end Go.X
