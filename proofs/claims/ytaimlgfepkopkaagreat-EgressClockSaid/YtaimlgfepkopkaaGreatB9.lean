/- Contracts and plain facts: EgD EgE EgF EgG EgH EgI. -/
import Derived.Test.YtaimlgfepkopkaaGreatB0
import Derived.Test.YtaimlgfepkopkaaGreatB1
import Derived.Test.YtaimlgfepkopkaaGreatB2
import Derived.Test.YtaimlgfepkopkaaGreatB3
import Derived.Test.YtaimlgfepkopkaaGreatB4
import Derived.Test.YtaimlgfepkopkaaGreatB5
import Derived.Test.YtaimlgfepkopkaaGreatB6
import Derived.Test.YtaimlgfepkopkaaGreatB7
import Derived.Test.YtaimlgfepkopkaaGreatB8
import Derived.Test.YtaimlgfepkopkaaGreatK
import Derived.Test.YtaimlgfepkopkaaGreatF0
import Derived.Test.YtaimlgfepkopkaaGreatF1
import Derived.Test.YtaimlgfepkopkaaGreatF2
set_option linter.unusedVariables false
set_option linter.unusedSimpArgs false
set_option linter.unusedSectionVars false
namespace Go.X
open Go.Proofs
namespace EgD
open Arith ArithC TreeF FqM FqC SockC EgM EgA EgB EgC
open SockM (Sk emitS doneS writeS loseS newS skFl skTso mayS)
open SockQ (Went gN gF gS gA emit_went)
open SockO (IvS pcs_lost lost_mem)
open SockV (IvB)
theorem drop_tri (b a : Nat) (c : Cf) (p : Nat → Option Pt) (ck q l : Nat) (L : Nat → Ct) (o : Ou) (s : Sg) (f : Int) (hl : o.dr.length ≤ 1000 ∧ o.ft.length ≤ 1000) : Tri Tryz.prog N_egress_Machine_drop [.lf (.ptr (some ⟨b, 0⟩)), .lf (.ptr (some ⟨a, 0⟩)), .agg (Ks.mk KS s), .lf (.int .i64 f)] []
    (blk b (mL c ck p q l) ^ led l L ^ outp a o) (fun _ => blk b (mL c ck p q l) ^ led l (dropF L o s f).2 ^ outp a (dropF L o s f).1) :=
  tri_0 (call_egress_Machine_drop (some ⟨b, 0⟩) (some ⟨a, 0⟩) s f) fun w0 S R h => by
    unfold W_egress_Machine_drop
    refine w_new (h.le (star_emp _)) fun n1 w h => w_drw h fun w h => w_deref (w_ld (x := sK s) h rfl (w_ld (x := some ⟨l, 0⟩) h rfl (w_call (note_tri l L (sK s) f) h fun r w h => ?_)))
    obtain ⟨_, h⟩ := h.purP
    obtain ⟨s1, s2, s3, h⟩ := h.outp a
    have hl2 : o.dr.length + [s].length ≤ 4294967296 := by have := hl.1; simp only [List.length_singleton]; omega
    have hl3 : o.ft.length + [f].length ≤ 4294967296 := by have := hl.2; simp only [List.length_singleton]; omega
    have fin : ∀ {w : World} {t2 t3 : Sl}, Own w0 S R w (arr t3 KI (o.ft ++ [f]) ^ arr t2 KS (o.dr ++ [s]) ^ blk a [.sl s1, .sl s2, .sl s3, .int .u64 o.wd] ^ arr s1 KS o.dep ^ blk b (mL c ck p q l) ^ led l (noteL L (sK s) f).2 ^ emp) →
        (deref (some ⟨a, 0⟩) fun q15 => st ⟨q15.b, q15.o + 1⟩ [.sl t2] <| deref (some ⟨a, 0⟩) fun q16 => st ⟨q16.b, q16.o + 2⟩ [.sl t3] <| fun w => Own w0 S R w (blk b (mL c ck p q l) ^ led l (dropF L o s f).2 ^ outp a (dropF L o s f).1)) w := by
      intro w t2 t3 h
      refine w_deref (w_setTo h a [.sl s1, .sl t2, .sl s3, .int .u64 o.wd] rfl rfl rfl fun w h => ?_)
      refine w_deref (w_setTo h a [.sl s1, .sl t2, .sl t3, .int .u64 o.wd] rfl rfl rfl fun w h => ?_)
      have h := h.mkOutp a s1 t2 t3 { o with dr := o.dr ++ [s], ft := o.ft ++ [f] }
      exact h.fin (A := blk b (mL c ck p q l) ^ led l (noteL L (sK s) f).2 ^ outp a { o with dr := o.dr ++ [s], ft := o.ft ++ [f] })
    refine w_drw h fun w h => w_ldAll (b := n1) (x := s) h rfl (w_deref (w_deref (w_ld (x := s2) h rfl (w_ld (x := s3) h rfl (w_both ?_ ?_)))))
    · refine w_new h fun n11 w h => w_chk h rfl (w_chk h rfl (w_both ?_ ?_))
      · have h := h.blkArr n11 KS [s] rfl (by simp)
        have h : Own w0 S R w (arr ⟨some ⟨n11, 0⟩, 1, 1⟩ KS [s] ^ _) := h
        refine w_app (K := KS) (s := s2) (xs := o.dr) h rfl hl2 fun t2 w _ h => ?_
        refine w_chk h rfl (w_new h fun n13 w h => w_chk h rfl (w_chk h rfl (w_chkAll (b := n1) h ?_)))
        have h := h.blkArr n13 KI [f] rfl (by simp)
        have h : Own w0 S R w (arr ⟨some ⟨n13, 0⟩, 1, 1⟩ KI [f] ^ _) := h
        refine w_app (K := KI) (s := s3) (xs := o.ft) h rfl hl3 fun t3 w _ h => ?_
        exact fin h.fin
      · refine w_new h fun n17 w h => w_chk h rfl (w_chk h rfl (w_chkAll (b := n1) h ?_))
        have h := h.blkArr n11 KS [s] rfl (by simp)
        have h : Own w0 S R w (arr ⟨some ⟨n11, 0⟩, 1, 1⟩ KS [s] ^ _) := h
        refine w_app (K := KS) (s := s2) (xs := o.dr) h rfl hl2 fun t2 w _ h => ?_
        refine w_chk h rfl ?_
        have h := h.blkArr n17 KI [f] rfl (by simp)
        have h : Own w0 S R w (arr ⟨some ⟨n17, 0⟩, 1, 1⟩ KI [f] ^ _) := h
        refine w_app (K := KI) (s := s3) (xs := o.ft) h rfl hl3 fun t3 w _ h => ?_
        exact fin h.fin
    · refine w_new h fun n22 w h => w_chk h rfl (w_chk h rfl (w_chkAll (b := n1) h (w_new h fun n23 w h => w_chk h rfl (w_chk h rfl ?_))))
      have h := h.blkArr n23 KS [s] rfl (by simp)
      have h : Own w0 S R w (arr ⟨some ⟨n23, 0⟩, 1, 1⟩ KS [s] ^ _) := h
      refine w_app (K := KS) (s := s2) (xs := o.dr) h rfl hl2 fun t2 w _ h => ?_
      refine w_chk h rfl ?_
      have h := h.blkArr n22 KI [f] rfl (by simp)
      have h : Own w0 S R w (arr ⟨some ⟨n22, 0⟩, 1, 1⟩ KI [f] ^ _) := h
      refine w_app (K := KI) (s := s3) (xs := o.ft) h rfl hl3 fun t3 w _ h => ?_
      exact fin h.fin
theorem went_r {k : Int} {v v' : Sk} {now : Int} {g : Sg} (hv : IvS k v) (hv' : IvS k v') (hw : Went v now g v') : 0 ≤ gF g ∧ gF g + gN g ≤ 4611686018427387904 := by
  have b1 := hv'.ok.bf.nw
  have b2 := hv'.ok.bf.w
  have b3 := hv.ok.bf.u
  have b4 := hv.ok.bf.un
  cases hx : gA g with
  | false =>
    obtain ⟨n1, n2, _⟩ := hw.new hx
    have : SockA.bN v'.bf = SockA.bN v.bf + gN g := by rw [n2]
    rw [n1]; omega
  | true =>
    obtain ⟨_, n2, _⟩ := hw.old hx
    obtain ⟨z, hz, ez⟩ := lost_mem (l := v.bd.1) (by rw [n2])
    have hzo := hv.pc z hz
    rw [n2] at ez
    have e1 : gF g = Board.pFrom z := congrArg Prod.fst ez
    have e2 : gF g + gN g = Board.pTo z := congrArg Prod.snd ez
    have := hzo.f
    have := hzo.t
    omega
theorem cnt_set {α : Type} {f : α → Bool} : ∀ {l : List α} {i : Nat} {p q : α}, l[i]? = some p → f p = true → f q = false → (l.set i q).countP f + 1 = l.countP f
  | [], _, _, _, h, _, _ => by cases h
  | a :: l, 0, p, q, h, hp, hq => by
    cases h
    rw [List.set_cons_zero, List.countP_cons_of_neg (by rw [hq]; simp), List.countP_cons_of_pos hp]
  | a :: l, i + 1, p, q, h, hp, hq => by
    have := cnt_set (l := l) (i := i) (p := p) (q := q) (by simpa using h) hp hq
    rw [List.set_cons_succ, List.countP_cons, List.countP_cons]; omega
theorem fresh_less {k : Int} {v v' : Sk} {now : Int} {g : Sg} (hv : IvS k v) (hv' : IvS k v') (hw : Went v now g v') : fresh v' < fresh v := by
  have b1 := hv'.ok.bf.nw
  have hn := hw.n
  have e0 : fresh v' = (SockA.bW v'.bf - SockA.bN v'.bf).toNat + v'.bd.1.countP (fun p => Board.pLo p) := rfl
  have e1 : fresh v = (SockA.bW v.bf - SockA.bN v.bf).toNat + v.bd.1.countP (fun p => Board.pLo p) := rfl
  rw [e0, e1]
  cases hx : gA g with
  | false =>
    obtain ⟨_, n2, _, _, n5⟩ := hw.new hx
    have f1 : SockA.bN v'.bf = SockA.bN v.bf + gN g := by rw [n2]
    have f2 : SockA.bW v'.bf = SockA.bW v.bf := by rw [n2]
    have f3 : v'.bd.1.countP (fun p => Board.pLo p) = v.bd.1.countP (fun p => Board.pLo p) := by
      rw [n5]; show (v.bd.1 ++ [_]).countP _ = _
      rw [List.countP_append, List.countP_cons_of_neg (by show ¬ (false = true); simp)]; rfl
    rw [f3]; omega
  | true =>
    obtain ⟨n1, n2, n3⟩ := hw.old hx
    obtain ⟨i, pp, hp, hlo, _, e2⟩ := SockQ.lost_at (l := v.bd.1) (by rw [n2])
    have f3 : v'.bd.1.countP (fun p => Board.pLo p) + 1 = v.bd.1.countP (fun p => Board.pLo p) := by
      rw [n3]
      show (Board.againF v.bd.1 _).countP _ + 1 = _
      rw [e2]
      exact cnt_set hp hlo rfl
    rw [n1]; omega
theorem fresh_done (v : Sk) (n : Int) : fresh (doneS v n).2 = fresh v := by unfold doneS; split <;> rfl
theorem ivB_emit {k : Int} {v : Sk} (h : IvB k v) {now : Int} (hn : U now) : IvB k (emitS v now).2 :=
  { i := h.i.emit hn, kr := h.kr, g := (SockV.emit_g v now).1.trans h.g, b := by rw [(SockV.emit_g v now).2]; exact h.b }
theorem ivB_done {k : Int} {v : Sk} (h : IvB k v) (n : Int) : IvB k (doneS v n).2 :=
  { i := h.i.done n, kr := h.kr, g := by rw [show (doneS v n).2.sp = v.sp by unfold doneS; split <;> rfl]; exact h.g, b := by rw [show (doneS v n).2.md = v.md by unfold doneS; split <;> rfl]; exact h.b }
structure OkPm (k i : Int) (s : Pm) : Prop where
  v : IvB k s.v
  id : s.v.id = i
  q : OkQ s.q
theorem emit_id (v : Sk) (now : Int) : (emitS v now).2.id = v.id := by
  unfold emitS
  split
  · exact (SockQ.may_same v).id
  · show (SockM.goS v now).2.id = v.id
    unfold SockM.goS; split <;> rfl
theorem done_id (v : Sk) (n : Int) : (doneS v n).2.id = v.id := by unfold doneS; split <;> rfl
theorem went_of {k : Int} {v : Sk} (h : IvB k v) {now : Int} (hn : U now) (he : (emitS v now).1.2 = 0) : Went v now (emitS v now).1.1 (emitS v now).2 := emit_went h.i hn he
theorem went_ok {k : Int} {v : Sk} (h : IvB k v) {now : Int} (hn : U now) (he : (emitS v now).1.2 = 0) : U (sFr (emitS v now).1.1) ∧ U (sSt (emitS v now).1.1) := by
  have hw := went_of h hn he
  have hr := went_r h.i (h.i.emit hn) hw
  have h1 := hw.n
  refine ⟨⟨hr.1, by show gF _ < _; omega⟩, ?_⟩
  show U (gS _)
  rw [hw.st]; exact SockO.U_max h.i.ok.nx hn
theorem enter_ok {k i now : Int} {s : Pm} (h : OkPm k i s) (hn : U now) (he : (emitS s.v now).1.2 = 0) : OkPm k i (enter i now s).1 ∧ fresh (enter i now s).1.v < fresh s.v := by
  have hs := went_ok h.v hn he
  have hf := fresh_less h.v.i (h.v.i.emit hn) (went_of h.v hn he)
  unfold enter
  dsimp only
  split
  · exact ⟨⟨ivB_emit h.v hn, (emit_id _ _).trans h.id, h.q.enq hs hn⟩, hf⟩
  · exact ⟨⟨ivB_done (ivB_emit h.v hn) _, (done_id _ _).trans ((emit_id _ _).trans h.id), h.q.enq hs hn⟩, by rw [fresh_done]; exact hf⟩
theorem pumpN_ok {k i now : Int} (hn : U now) : ∀ (n : Nat) (s : Pm), OkPm k i s → OkPm k i (pumpN i now n s)
  | 0, _, h => h
  | n + 1, s, h => by
    unfold pumpN
    by_cases he : (emitS s.v now).1.2 = 0
    · rw [if_neg (fun c => c he)]
      have h2 := (enter_ok h hn he).1
      split
      · exact pumpN_ok hn n _ h2
      · exact h2
    · rw [if_pos he]
      exact ⟨ivB_emit h.v hn, (emit_id _ _).trans h.id, h.q⟩
theorem pump_tri (b a : Nat) (k : Int) (v : Mc) (hv : OkMc k v) (i : Nat) (x : Sk) (hx : v.so i = some x) (o : Ou) (hl : o.dr.length ≤ 999 ∧ o.ft.length ≤ 999) : Tri Tryz.prog N_egress_Machine_pump [.lf (.ptr (some ⟨b, 0⟩)), .lf (.int .i64 (i : Int)), .lf (.ptr (some ⟨a, 0⟩))] [] (mach b v ^ outp a o) (fun _ => mach b (pumpM v i x o).2 ^ outp a (pumpM v i x o).1) :=
  tri_0 (call_egress_Machine_pump (some ⟨b, 0⟩) (i : Int) (some ⟨a, 0⟩)) fun w0 S R h => by
    unfold W_egress_Machine_pump
    obtain ⟨hxi, hid, hi⟩ := hv.so i x hx
    have hn := hv.un
    obtain ⟨p, ck, q, l, h⟩ := (h.le (star_emp _)).mach b
    obtain ⟨ap, hp, h⟩ := h.outK p v.so hi hx
    have s0 : OkPm k i ⟨x, v.q, v.l, o⟩ := ⟨hxi, hid, hv.q⟩
    have eit : ((i : Nat) : Int).toNat = i := Int.toNat_natCast i
    have hat : Ks.un [.ptr] (((mL v.c ck p q l).drop (0 + 10 + ((i : Nat) : Int).toNat * 1)).take 1) = some (some ⟨ap, 0⟩) := by rw [eit, mL_at v.c ck p q l i hi, hp]
    refine w_deref ⟨by omega, w_ld h hat ?_⟩
    have fin : ∀ {w : World} (s : Pm), s = pumpF i v.now ⟨x, v.q, v.l, o⟩ → Own w0 S R w (blk b (mL v.c ck p q l) ^ blk ck [.int .u64 v.now] ^ que q s.q ^ led l s.l ^ sck ap s.v ^ ButK p v.so i ^ outp a s.o ^ emp) → Own w0 S R w (mach b (pumpM v i x o).2 ^ outp a (pumpM v i x o).1) := by
      intro w s hs h
      have h := h.inK p v.so hi p (upL v.so i (some s.v)) ap s.v (fun _ _ => rfl) (fun j hj => upL_ne v.so _ hj) hp (upL_same v.so i _)
      have h := h.mkMach b p ck q l { v with so := upL v.so i (some s.v), q := s.q, l := s.l }
      rw [show pumpM v i x o = (s.o, { v with so := upL v.so i (some s.v), q := s.q, l := s.l }) by unfold pumpM; rw [← hs]]
      exact h.fin
    have h : Own w0 S R w0 (blk b (mL v.c ck p q l) ^ blk ck [.int .u64 v.now] ^ que q v.q ^ led l v.l ^ sck ap x ^ ButK p v.so i ^ outp a o ^ emp) := h.fin
    refine w_loopE (fun (_ : Unit) (s : Pm) => blk b (mL v.c ck p q l) ^ blk ck [.int .u64 v.now] ^ que q s.q ^ led l s.l ^ sck ap s.v ^ ButK p v.so i ^ outp a s.o ^ emp) (fun _ s => OkPm k i s ∧ s.o = o ∧ ∃ n, fresh s.v < n ∧ pumpN i v.now n s = pumpF i v.now ⟨x, v.q, v.l, o⟩) (fun _ s => fresh s.v) ⟨x, v.q, v.l, o⟩ h ⟨s0, rfl, _, Nat.lt_succ_self _, rfl⟩ ?_
    rintro K (y : Unit) s w ⟨hs, hso, n, hfn, hN⟩ h next
    cases n with
    | zero => omega
    | succ n =>
    unfold pumpN at hN
    refine w_call (mnowO_tri b v.c p ck q l v.now) h fun r w h => ?_
    obtain ⟨hr, h⟩ := h.purP; rw [hr]
    refine w_call (SockG.emit_tri ap s.v hs.v.i.ok (pcs_lost hs.v.i.pc) v.now hn) h fun r w h => ?_
    obtain ⟨hr, h⟩ := h.purP; rw [hr]
    refine w_new h fun n7 w h => w_setAll h (by rfl) fun w h => w_ite (fun ce => ?_) fun ce => ?_
    · have ce : (emitS s.v v.now).1.2 ≠ 0 := by simpa using ce
      rw [if_pos ce] at hN
      exact fin { s with v := (emitS s.v v.now).2 } hN h.fin
    · have ce : (emitS s.v v.now).1.2 = 0 := by simpa using ce
      rw [if_neg (fun c => c ce)] at hN
      obtain ⟨hok, hless⟩ := enter_ok hs hn ce
      have hw := went_of hs.v hn ce
      have hgs := went_ok hs.v hn ce
      have hgn := hw.n
      obtain ⟨g, hg⟩ : ∃ g, g = (emitS s.v v.now).1.1 := ⟨_, rfl⟩
      obtain ⟨v', hv'⟩ : ∃ v', v' = (emitS s.v v.now).2 := ⟨_, rfl⟩
      have hiv := ivB_emit hs.v hn
      have een : enter i v.now s = if (enqF s.q g v.now).1.1 = 0 then (⟨v', (enqF s.q g v.now).2, (noteL s.l i 0).2, s.o⟩, 0)
        else (⟨(doneS v' g.2.2.1).2, (enqF s.q g v.now).2, (dropF (noteL s.l i 0).2 s.o g (enqF s.q g v.now).1.1).2, (dropF (noteL s.l i 0).2 s.o g (enqF s.q g v.now).1.1).1⟩, 1) := by
        rw [hg, hv']; rfl
      rw [← hg] at hw hgs hgn
      rw [← hv'] at hiv hw
      rw [← hg, ← hv'] at h
      refine w_deref (w_ld (x := some ⟨l, 0⟩) h rfl (w_call (note_tri l s.l i 0) h fun r w h => ?_))
      obtain ⟨_, h⟩ := h.purP
      refine w_drw h fun w h => w_ldAll (b := n7) (x := g) h rfl (w_deref (w_ld (x := some ⟨q, 0⟩) h rfl (w_call (mnowO_tri b v.c p ck q l v.now) h fun r w h => ?_)))
      obtain ⟨hr, h⟩ := h.purP; rw [hr]
      refine w_chk h rfl (w_chkAll (b := n7) h (w_call (FqD.enq_tri q s.q hs.q g v.now hgs hn) h fun r w h => ?_))
      obtain ⟨hr, h⟩ := h.purP; rw [hr]
      refine w_ite (fun cf => ?_) fun cf => ?_
      · have cf : (enqF s.q g v.now).1.1 = 0 := by simpa using cf
        rw [if_pos cf] at een
        rw [een] at hN hok hless
        rw [if_pos rfl] at hN
        have hless : fresh v' < fresh s.v := hless
        exact next () ⟨v', (enqF s.q g v.now).2, (noteL s.l i 0).2, s.o⟩ w ⟨hok, hso, n, by show fresh v' < n; omega, hN⟩ h.fin hless
      · have cf : ¬ (enqF s.q g v.now).1.1 = 0 := by simpa using cf
        rw [if_neg cf] at een
        rw [een] at hN hok hless
        rw [if_neg (by show ¬ (1:Int) = 0; decide)] at hN
        refine w_ldAll (b := n7) (x := g) h rfl ?_
        refine w_call (drop_tri b a v.c p ck q l (noteL s.l i 0).2 s.o g (enqF s.q g v.now).1.1 (by rw [hso]; omega)) h fun _ w h => ?_
        refine w_ld (x := g.2.2.1) h rfl (w_call (SockC.done_tri ap v' hiv.i.ok.out g.2.2.1 (by show gN g < _; omega)) h fun r w h => ?_)
        obtain ⟨_, h⟩ := h.purP
        exact fin _ hN h.fin
end EgD

namespace EgE
open Arith ArithC TreeF FqM FqC SockC EgM EgA EgB EgC EgD
open SockM (Sk emitS doneS writeS loseS newS skFl skTso mayS)
open SockO (IvS)
open SockV (IvB)
theorem new_tri (c : Cf) : Tri Tryz.prog N_egress_New [.agg (Ks.mk KC c)] [.lf .ptr, .lf (.int .i64)] emp (fun r => ex fun b : Nat => pur (r = if may c then (some ⟨b, 0⟩, 0) else (none, 13)) (if may c then mach b (newM c) else emp)) :=
  tri_0 (call_egress_New c) fun w0 S R h => by
    unfold W_egress_New
    refine w_new (h.le (star_emp _)) fun n1 w h => w_ldAll (b := n1) (x := c) h rfl (w_call (FqE.new_tri c) h fun r w h => ?_)
    obtain ⟨q, h⟩ := h.exP
    obtain ⟨hr, h⟩ := h.purP
    by_cases hm : may c = true
    · rw [if_pos hm] at hr h
      rw [hr]
      refine w_ite (fun cc => (by cases cc)) fun _ => ?_
      refine w_drw h fun w h => w_ldAll (b := n1) (x := c) h rfl (w_call cnew_tri (h.le ((star_emp _).trans (star_comm _ _))) fun r w h => ?_)
      obtain ⟨ck, h⟩ := h.exP
      obtain ⟨hr, h⟩ := h.purP; rw [hr]
      refine w_chkAll (b := n1) h (w_call lnew_tri (h.le ((star_emp _).trans (star_comm _ _))) fun r w h => ?_)
      obtain ⟨l, h⟩ := h.exP
      obtain ⟨hr, h⟩ := h.purP; rw [hr]
      refine w_chkAll (b := n1) h (w_new h fun n7 w h => ?_)
      have h : Own w0 S R w (blk n7 (mL c ck (fun _ => none) q l) ^ _) := h
      have e : AllK (fun _ => none) (fun _ => none) = bigS (fun _ => pur ((none : Option Pt) = none) emp) 8 := rfl
      have hall : ∀ n, Le emp (bigS (fun _ => pur ((none : Option Pt) = none) emp) n) := fun n => by
        induction n with
        | zero => exact Le.rfl
        | succ n ih => exact (star_emp emp).trans (star_mono (fun _ _ _ h => ⟨rfl, h⟩) ih)
      have h : Own w0 S R w (AllK (fun _ => none) (fun _ => none) ^ _) := (h.le ((star_emp _).trans (star_comm _ _))).le (star_mono (by rw [e]; exact hall 8) Le.rfl)
      have h := h.mkMach n7 (fun _ => none) ck q l (newM c)
      refine Own.retE n7 (Own.retP (by rw [if_pos hm]) ?_)
      rw [if_pos hm]
      exact h.keep
    · rw [if_neg hm] at hr h
      rw [hr]
      refine w_ite (fun _ => ?_) fun cc => (by cases cc)
      refine Own.retE 0 (Own.retP (by rw [if_neg hm]) ?_)
      rw [if_neg hm]
      exact h.emp'
theorem set_tri (b : Nat) (v : Mc) (c : Cf) : Tri Tryz.prog N_egress_Machine_set [.lf (.ptr (some ⟨b, 0⟩)), .agg (Ks.mk KC c)] [.lf (.int .i64)] (mach b v) (fun r => pur (r = (setM v c).1) (mach b (setM v c).2)) :=
  tri_0 (call_egress_Machine_set (some ⟨b, 0⟩) c) fun w0 S R h => by
    unfold W_egress_Machine_set
    refine w_new (h.le (star_emp _)) fun n1 w h => ?_
    obtain ⟨p, ck, q, l, h⟩ := h.mach b
    refine w_drw h fun w h => w_ldAll (b := n1) (x := c) h rfl (w_deref (w_ld (x := some ⟨q, 0⟩) h rfl (w_call (FqE.set_tri q v.q c) h fun r w h => ?_)))
    obtain ⟨hr, h⟩ := h.purP; rw [hr]
    refine w_ite (fun cc => ?_) fun cc => ?_
    · have cc : (setF v.q c).1 = 0 := by simpa using cc
      refine w_ldAll (b := n1) (x := c) h rfl (w_deref (w_setTo h b (mL c ck p q l) rfl rfl rfl fun w h => ?_))
      rw [show setM v c = (0, { v with q := (setF v.q c).2, c := c }) by unfold setM; rw [if_pos cc]]
      exact Own.retP cc (h.mkMach b p ck q l { v with q := (setF v.q c).2, c := c }).fin
    · have cc : ¬ (setF v.q c).1 = 0 := by simpa using cc
      rw [show setM v c = ((setF v.q c).1, { v with q := (setF v.q c).2 }) by unfold setM; rw [if_neg cc]]
      exact Own.retP rfl (h.mkMach b p ck q l { v with q := (setF v.q c).2 }).fin
theorem drops_app (l : Nat → Ct) (o : Ou) (a : List Sg) (s : Sg) : dropsF l o (a ++ [s]) = dropF (dropsF l o a).2 (dropsF l o a).1 s 5 := by
  induction a generalizing l o with
  | nil => rfl
  | cons x a ih => exact ih _ _
theorem drops_len (l : Nat → Ct) (o : Ou) (a : List Sg) : (dropsF l o a).1.dr.length = o.dr.length + a.length ∧ (dropsF l o a).1.ft.length = o.ft.length + a.length := by
  induction a generalizing l o with
  | nil => exact ⟨rfl, rfl⟩
  | cons x a ih =>
    obtain ⟨h1, h2⟩ := ih (dropF l o x 5).2 (dropF l o x 5).1
    have e1 : (dropF l o x 5).1.dr.length = o.dr.length + 1 := by show (o.dr ++ [x]).length = _; simp
    have e2 : (dropF l o x 5).1.ft.length = o.ft.length + 1 := by show (o.ft ++ [5]).length = _; simp
    rw [List.length_cons]
    show (dropsF (dropF l o x 5).2 (dropF l o x 5).1 a).1.dr.length = _ ∧ (dropsF (dropF l o x 5).2 (dropF l o x 5).1 a).1.ft.length = _
    omega
theorem close_len {v : Qm} (hv : OkQ v) (i : Int) : (closeF v i).1.length ≤ 512 := by
  unfold closeF
  split
  · show ([] : List Sg).length ≤ 512; decide
  · split
    · show ([] : List Sg).length ≤ 512; decide
    · rename_i f hf; exact (hv.len hf).2
theorem shut_tri (b a : Nat) (k : Int) (v : Mc) (hv : OkMc k v) (i : Nat) (hi : i < 8) (o : Ou) (hl : o.dr.length ≤ 400 ∧ o.ft.length ≤ 400) : Tri Tryz.prog N_egress_Machine_shut [.lf (.ptr (some ⟨b, 0⟩)), .lf (.int .i64 (i : Int)), .lf (.ptr (some ⟨a, 0⟩))] [] (mach b v ^ outp a o) (fun _ => mach b (shutM v i o).2 ^ outp a (shutM v i o).1) :=
  tri_0 (call_egress_Machine_shut (some ⟨b, 0⟩) (i : Int) (some ⟨a, 0⟩)) fun w0 S R h => by
    unfold W_egress_Machine_shut
    obtain ⟨p, ck, q, l, h⟩ := (h.le (star_emp _)).mach b
    have eit : ((i : Nat) : Int).toNat = i := Int.toNat_natCast i
    have h : Own w0 S R w0 (ButK p v.so i ^ blk b (mL v.c ck p q l) ^ blk ck [.int .u64 v.now] ^ que q v.q ^ led l v.l ^ outp a o ^ emp) := by
      cases hs : v.so i with
      | none => exact (h.noK p v.so hi hs).2.fin
      | some x => obtain ⟨ap, _, h⟩ := h.outK p v.so hi hs; exact h.drop.fin
    refine w_deref ⟨by omega, ?_⟩
    rw [eit]
    refine w_setTo h b (mL v.c ck (upP p i none) q l) rfl (by rcases lt8 hi with rfl | rfl | rfl | rfl | rfl | rfl | rfl | rfl <;> rfl) (mL_up v.c ck p q l i hi none) fun w h => ?_
    have h := h.inKN p v.so hi (upP p i none) (upL v.so i none) (fun j hj => upP_ne p none hj) (fun j hj => upL_ne v.so none hj) (upP_same p i none) (upL_same v.so i none)
    refine w_deref (w_ld (x := some ⟨q, 0⟩) h rfl (w_call (FqE.close_tri q v.q hv.q (i : Int)) h fun r w h => ?_))
    obtain ⟨cl, hcl⟩ : ∃ cl, cl = (closeF v.q (i : Int)).1 := ⟨_, rfl⟩
    have hcn : cl.length ≤ 512 := by rw [hcl]; exact close_len hv.q i
    have hrl := (h.rd (s := r)).2
    rw [← hcl] at hrl h
    have h : Own w0 S R w (led l (dropsF v.l o (cl.take (0 : Int).toNat)).2 ^ outp a (dropsF v.l o (cl.take (0 : Int).toNat)).1 ^ arr r KS cl ^ blk b (mL v.c ck (upP p i none) q l) ^ blk ck [.int .u64 v.now] ^ que q (closeF v.q (i : Int)).2 ^ AllK (upP p i none) (upL v.so i none) ^ emp) := h.fin (A := led l v.l ^ outp a o ^ arr r KS cl ^ blk b (mL v.c ck (upP p i none) q l) ^ blk ck [.int .u64 v.now] ^ que q (closeF v.q (i : Int)).2 ^ AllK (upP p i none) (upL v.so i none) ^ emp)
    refine w_loopE (fun (y : Int) (_ : Unit) => led l (dropsF v.l o (cl.take y.toNat)).2 ^ outp a (dropsF v.l o (cl.take y.toNat)).1 ^ arr r KS cl ^ blk b (mL v.c ck (upP p i none) q l) ^ blk ck [.int .u64 v.now] ^ que q (closeF v.q (i : Int)).2 ^ AllK (upP p i none) (upL v.so i none) ^ emp) (fun (y : Int) _ => 0 ≤ y ∧ y ≤ cl.length) (fun (y : Int) _ => (cl.length - y.toNat)) () h ⟨by decide, by omega⟩ ?_
    rintro K (y : Int) _ w ⟨h0, h1⟩ h next
    refine w_ite (fun c => ?_) fun c => ?_
    · have c : y < ((r.len : Nat) : Int) := of_decide_eq_true c
      have hy : y.toNat < cl.length := by omega
      have hwi : IntKind.i64.wrap (y + 1) = y + 1 := wi (by omega) (by omega)
      have hin : (y + 1).toNat = y.toNat + 1 := by omega
      obtain ⟨s, hs⟩ : ∃ s, cl[y.toNat]? = some s := ⟨_, List.getElem?_eq_getElem hy⟩
      obtain ⟨d1, d2⟩ := drops_len v.l o (cl.take y.toNat)
      have dt : (cl.take y.toNat).length ≤ 512 := by rw [List.length_take]; omega
      refine w_idx (s := r) h h0 hy (w_ldE h r y.toNat hs rfl (w_new h fun n9 w h => w_setAll h (by rfl) fun w h => w_ldAll (b := n9) (x := s) h rfl ?_))
      refine w_call (drop_tri b a v.c (upP p i none) ck q l (dropsF v.l o (cl.take y.toNat)).2 (dropsF v.l o (cl.take y.toNat)).1 s 5 (by omega)) h fun _ w h => ?_
      have e : dropsF v.l o (cl.take (y + 1).toNat) = dropF (dropsF v.l o (cl.take y.toNat)).2 (dropsF v.l o (cl.take y.toNat)).1 s 5 := by
        rw [hin, List.take_add_one, hs]; exact drops_app _ _ _ _
      rw [← e] at h
      rw [hwi]
      exact next (y + 1) () w ⟨by omega, by omega⟩ h.fin (by show cl.length - (y + 1).toNat < cl.length - y.toNat; omega)
    · have c : ¬ y < ((r.len : Nat) : Int) := of_decide_eq_false c
      rw [List.take_of_length_le (by omega)] at h
      have h := h.mkMach b (upP p i none) ck q l { v with so := upL v.so i none, q := (closeF v.q (i : Int)).2, l := (dropsF v.l o cl).2 }
      rw [show shutM v i o = ((dropsF v.l o cl).1, { v with so := upL v.so i none, q := (closeF v.q (i : Int)).2, l := (dropsF v.l o cl).2 }) by unfold shutM; rw [← hcl]]
      exact h.fin
abbrev KR : Ks := [.int .u64, .int .u64]
structure OkD (d : Dd) : Prop where
  l : dL d < 9223372036854775808
  u : U (dU d)
  a : U (dA d)
  c : 0 ≤ cH (dC d) ∧ U (cR (dC d))
theorem told_tri (ap : Nat) (k : Int) (x : Sk) (hx : IvB k x) (now : Int) (hn : U now) (d : Dd) (hd : OkD d) (xs : List (Ks.T KR)) (hxl : xs.length ≤ 4294967296) : Tri Tryz.prog N_egress_told [.lf (.ptr (some ⟨ap, 0⟩)), .agg (Ks.mk KD d), .lf (.int .u64 now)] [.lf (.int .i64)] (sck ap x ^ rarr (dR d) KR xs) (fun r => pur (r = (toldF x now d xs).1) (sck ap (toldF x now d xs).2)) :=
  tri_0 (call_egress_told (some ⟨ap, 0⟩) d now) fun w0 S R h => by
    unfold W_egress_told
    refine w_new (h.le (star_emp _)) fun n1 w h => w_ld (x := dK d) h rfl (w_ite (fun c => ?_) fun c => ?_)
    · have c : dK d = 2 := by simpa using c
      refine w_ld (x := dL d) h rfl (w_call (write_tri ap x hx.i.ok.bf (dL d) hd.l) h fun r w h => ?_)
      obtain ⟨hr, h⟩ := h.purP; rw [hr]
      rw [show toldF x now d xs = writeS x (dL d) by unfold toldF; rw [if_pos c]]
      exact Own.retP rfl h.fin
    have c : ¬ dK d = 2 := by simpa using c
    refine w_ite (fun c3 => ?_) fun c3 => ?_
    · have c3 : dK d = 3 := by simpa using c3
      refine w_ld (x := dU d) h rfl (w_ld (x := dR d) h rfl ?_)
      refine w_callL (A := sck ap x) (Q := rarr (dR d) KR xs) (SockN.sack_tri ap x hx.i.ok hx.i.ps now (dU d) hn (dR d) xs hxl) h fun r w h => ?_
      obtain ⟨hr, h⟩ := h.purP; rw [hr]
      rw [show toldF x now d xs = SockL.ackS x now (dU d) xs by unfold toldF; rw [if_neg c, if_pos c3]]
      exact Own.retP rfl h.fin
    have c3 : ¬ dK d = 3 := by simpa using c3
    refine w_ite (fun c4 => ?_) fun c4 => ?_
    · have c4 : dK d = 4 := by simpa using c4
      refine w_call (SockJ.slose_tri ap x hx.i.ok now hn) h fun r w h => ?_
      obtain ⟨hr, h⟩ := h.purP; rw [hr]
      rw [show toldF x now d xs = (0, loseS x now) by unfold toldF; rw [if_neg c, if_neg c3, if_pos c4]]
      exact Own.retP rfl h.fin
    · have c4 : ¬ dK d = 4 := by simpa using c4
      refine w_ld (x := dL d) h rfl (w_call (SockC.done_tri ap x hx.i.ok.out (dL d) hd.l) h fun r w h => ?_)
      obtain ⟨hr, h⟩ := h.purP; rw [hr]
      rw [show toldF x now d xs = doneS x (dL d) by unfold toldF; rw [if_neg c, if_neg c3, if_neg c4]]
      exact Own.retP rfl h.fin
end EgE

namespace EgF
open Arith ArithC TreeF FqM FqC SockC EgM EgA EgB EgC EgD EgE
open SockM (Sk emitS doneS writeS loseS newS skFl skTso mayS)
open SockO (IvS)
open SockV (IvB)
theorem upL_upL {α : Type} (l : Nat → α) (i : Nat) (x y : α) : upL (upL l i x) i y = upL l i y := funext fun j => by unfold upL; split <;> rfl
theorem ivB_le {k j : Int} {v : Sk} (h : IvB k v) (hj : k ≤ j) (hj2 : j ≤ 1000000) : IvB j v :=
  { i := h.i.le hj, kr := by have := h.kr; omega, g := h.g, b := SockV.Bd_le h.b (by omega) }
theorem OkMc_le {k j : Int} {v : Mc} (h : OkMc k v) (hj : k ≤ j) (hj2 : j ≤ 1000000) : OkMc j v :=
  { c := h.c, now := h.now, q := h.q, so := fun i x hx => ⟨ivB_le (h.so i x hx).1 hj hj2, (h.so i x hx).2⟩, kr := by have := h.kr; omega }
theorem told_ok {k : Int} {x : Sk} (hx : IvB k x) (hk : k < 1000000) {now : Int} (hn : U now) (d : Dd) (xs : List (Int × Int)) : IvB (k + 1) (toldF x now d xs).2 ∧ (toldF x now d xs).2.id = x.id := by
  unfold toldF
  split
  · exact ⟨hx.write hk _, rfl⟩
  · split
    · exact ⟨hx.ack hk hn _ _, by unfold SockL.ackS; split <;> rfl⟩
    · split
      · exact ⟨hx.lose hk hn, rfl⟩
      · exact ⟨hx.done hk _, by unfold doneS; split <;> rfl⟩
theorem upS_ok {k : Int} {v : Mc} (hv : OkMc k v) {i : Nat} (hi : i < 8) {x : Sk} (hx : IvB k x) (hid : x.id = (i : Int)) : OkMc k { v with so := upL v.so i (some x) } := by
  have hso : ∀ j y, upL v.so i (some x) j = some y → IvB k y ∧ y.id = (j : Int) ∧ j < 8 := fun j y hy => by
    by_cases e : j = i
    · subst e
      rw [upL_same] at hy
      cases hy; exact ⟨hx, hid, hi⟩
    · rw [upL_ne _ _ e] at hy; exact hv.so j y hy
  exact { hv with so := hso }
theorem upN_ok {k : Int} {v : Mc} (hv : OkMc k v) (i : Nat) : OkMc k { v with so := upL v.so i none } := by
  have hso : ∀ j y, upL v.so i none j = some y → IvB k y ∧ y.id = (j : Int) ∧ j < 8 := fun j y hy => by
    by_cases e : j = i
    · subst e
      rw [upL_same] at hy; cases hy
    · rw [upL_ne _ _ e] at hy; exact hv.so j y hy
  exact { hv with so := hso }
theorem one_tri (b a : Nat) (k : Int) (v : Mc) (hv : OkMc k v) (hk : k < 1000000) (d : Dd) (hd : OkD d) (xs : List (Ks.T KR)) (hxl : xs.length ≤ 4294967296) (o : Ou) (hl : o.dr.length ≤ 400 ∧ o.ft.length ≤ 400) :
    Tri Tryz.prog N_egress_Machine_one [.lf (.ptr (some ⟨b, 0⟩)), .agg (Ks.mk KD d), .lf (.ptr (some ⟨a, 0⟩))] [.lf (.int .i64)] ((mach b v ^ outp a o) ^ rarr (dR d) KR xs) (fun r => pur (r = (oneM v d xs o).1) (mach b (oneM v d xs o).2.2 ^ outp a (oneM v d xs o).2.1)) :=
  tri_0 (call_egress_Machine_one (some ⟨b, 0⟩) d (some ⟨a, 0⟩)) fun w0 S R h => by
    unfold W_egress_Machine_one
    refine w_new (h.le (star_emp _)) fun n1 w h => w_ld (x := dS d) h rfl (w_call (is_tri (dS d)) (h.le ((star_emp _).trans (star_comm _ _))) fun r w h => ?_)
    obtain ⟨hr, h⟩ := h.purP; rw [hr]
    have h : Own w0 S R w (blk n1 (Ks.mk KD d) ^ mach b v ^ outp a o ^ rarr (dR d) KR xs ^ emp) := h.fin
    refine w_ite (fun c => ?_) fun c => ?_
    · have c : ¬ (0 ≤ dS d ∧ dS d < 8) := fun hh => by rw [decide_eq_true hh] at c; cases c
      rw [show oneM v d xs o = (8, o, v) by unfold oneM; rw [if_pos c]]
      exact Own.retP rfl h.fin
    have c : 0 ≤ dS d ∧ dS d < 8 := by
      by_cases hh : 0 ≤ dS d ∧ dS d < 8
      · exact hh
      · rw [decide_eq_false hh] at c; cases c
    obtain ⟨i, hi⟩ : ∃ i : Nat, dS d = (i : Int) := ⟨(dS d).toNat, by omega⟩
    have hi8 : i < 8 := by omega
    have eit : ((i : Nat) : Int).toNat = i := Int.toNat_natCast i
    have hone : oneM v d xs o = match v.so i with
        | none => if dK d = 1 then (0, o, { v with so := upL v.so i (some (newS (i : Int) (cMss v.c) (cCap v.c))) }) else (10, o, v)
        | some x => if dK d = 1 then (9, o, v) else if dK d = 9 then (0, (shutM v i o).1, (shutM v i o).2)
          else if (toldF x v.now d xs).1 = 0 then (0, (pumpM v i (toldF x v.now d xs).2 o).1, (pumpM v i (toldF x v.now d xs).2 o).2)
          else ((toldF x v.now d xs).1, o, { v with so := upL v.so i (some (toldF x v.now d xs).2) }) := by
      unfold oneM
      rw [if_neg (fun hh => hh c), hi, eit]
      cases v.so i <;> rfl
    obtain ⟨p, ck, q, l, h⟩ := h.mach b
    have hsn := isNK h p v.so hi8
    have hat : Ks.un [.ptr] (((mL v.c ck p q l).drop (0 + 10 + (dS d).toNat * 1)).take 1) = some (p i) := by rw [hi, eit, mL_at v.c ck p q l i hi8]
    refine w_drw h fun w h => w_ld (x := dS d) h rfl (w_deref ⟨c, w_ld h hat (w_ld (x := dK d) h rfl ?_)⟩)
    cases hs : v.so i with
    | none =>
      rw [hs] at hsn hone
      have hpn : p i = none := by simpa using hsn
      rw [hpn]
      refine w_ite (fun cc => (by simp at cc)) fun _ => w_ld (x := dK d) h rfl (w_ite (fun c1 => ?_) fun c1 => ?_)
      · have c1 : dK d = 1 := by simpa using c1
        dsimp only at hone
        rw [if_pos c1] at hone
        rw [hone]
        refine w_drw h fun w h => w_ld (x := dS d) h rfl (w_ld (x := dS d) h rfl (w_deref (w_deref (w_ld (x := v.c) h rfl ?_))))
        rw [hi]
        refine w_call (SockK.snew_tri (i : Int) v.c) (h.le ((star_emp _).trans (star_comm _ _))) fun r w h => ?_
        obtain ⟨ap, h⟩ := h.exP
        obtain ⟨hr, h⟩ := h.purP; rw [hr]
        have h : Own w0 S R w (sck ap (newS (i : Int) (cMss v.c) (cCap v.c)) ^ blk n1 (Ks.mk KD d) ^ (blk b (mL v.c ck p q l) ^ blk ck [.int .u64 v.now] ^ que q v.q ^ led l v.l ^ AllK p v.so) ^ outp a o ^ emp) := h.fin
        refine w_chk h (by show [Lf.int IntKind.i64 (dS d)] = _; rw [hi]; rfl) ⟨by omega, ?_⟩
        rw [eit]
        obtain ⟨_, h⟩ := h.noK p v.so hi8 hs
        refine w_setTo h b (mL v.c ck (upP p i (some ⟨ap, 0⟩)) q l) rfl (by rcases lt8 hi8 with rfl | rfl | rfl | rfl | rfl | rfl | rfl | rfl <;> rfl) (mL_up v.c ck p q l i hi8 (some ⟨ap, 0⟩)) fun w h => ?_
        have h := h.inK p v.so hi8 (upP p i (some ⟨ap, 0⟩)) (upL v.so i (some (newS (i : Int) (cMss v.c) (cCap v.c)))) ap (newS (i : Int) (cMss v.c) (cCap v.c)) (fun j hj => upP_ne p _ hj) (fun j hj => upL_ne v.so _ hj) (upP_same p i _) (upL_same v.so i _)
        have h := h.mkMach b (upP p i (some ⟨ap, 0⟩)) ck q l { v with so := upL v.so i (some (newS (i : Int) (cMss v.c) (cCap v.c))) }
        exact Own.retP rfl h.fin
      · have c1 : ¬ dK d = 1 := by simpa using c1
        dsimp only at hone
        rw [if_neg c1] at hone
        rw [hone]
        refine w_ite (fun _ => ?_) fun cc => (by simp at cc)
        have h := h.mkMach b p ck q l v
        exact Own.retP rfl h.fin
    | some x =>
      obtain ⟨hx, hid, _⟩ := hv.so i x hs
      rw [hs] at hsn hone
      obtain ⟨ap, hp, h⟩ := h.outK p v.so hi8 hs
      rw [hp]
      refine w_ite (fun c1 => ?_) fun c1 => ?_
      · have c1 : dK d = 1 := by simpa using c1
        dsimp only at hone
        rw [if_pos c1] at hone
        rw [hone]
        have h := h.inK p v.so hi8 p v.so ap x (fun _ _ => rfl) (fun _ _ => rfl) hp hs
        have h := h.mkMach b p ck q l v
        exact Own.retP rfl h.fin
      have c1 : ¬ dK d = 1 := by simpa using c1
      dsimp only at hone
      rw [if_neg c1] at hone
      refine w_ld (x := dK d) h rfl (w_ite (fun cc => (by simp at cc; exact absurd cc c1)) fun _ => w_ite (fun cc => (by simp at cc)) fun _ => w_ld (x := dK d) h rfl (w_ite (fun c9 => ?_) fun c9 => ?_))
      · have c9 : dK d = 9 := by simpa using c9
        rw [if_pos c9] at hone
        rw [hone]
        have h := h.inK p v.so hi8 p v.so ap x (fun _ _ => rfl) (fun _ _ => rfl) hp hs
        have h := h.mkMach b p ck q l v
        refine w_ld (x := dS d) h rfl ?_
        rw [hi]
        refine w_call (shut_tri b a k v hv i hi8 o hl) h fun _ w h => ?_
        exact Own.retP rfl h.fin
      have c9 : ¬ dK d = 9 := by simpa using c9
      rw [if_neg c9] at hone
      refine w_drw h fun w h => w_ldAll (b := n1) (x := d) h rfl (w_call (mnowO_tri b v.c p ck q l v.now) h fun r w h => ?_)
      obtain ⟨hr, h⟩ := h.purP; rw [hr]
      refine w_chkAll (b := n1) h ?_
      refine w_callL (A := sck ap x) (Q := rarr (dR d) KR xs) (told_tri ap k x hx v.now hv.un d hd xs hxl) h fun r w h => ?_
      obtain ⟨hr, h⟩ := h.purP; rw [hr]
      obtain ⟨hx2, hid2⟩ := told_ok hx hk hv.un d xs
      have h := h.inK p v.so hi8 p (upL v.so i (some (toldF x v.now d xs).2)) ap (toldF x v.now d xs).2 (fun _ _ => rfl) (fun j hj => upL_ne v.so _ hj) hp (upL_same v.so i _)
      have h := h.mkMach b p ck q l { v with so := upL v.so i (some (toldF x v.now d xs).2) }
      have hv2 : OkMc (k + 1) { v with so := upL v.so i (some (toldF x v.now d xs).2) } := upS_ok (OkMc_le hv (by omega) (by omega)) hi8 hx2 (hid2.trans hid)
      refine w_ite (fun c0 => ?_) fun c0 => ?_
      · have c0 : (toldF x v.now d xs).1 = 0 := by simpa using c0
        rw [if_pos c0] at hone
        rw [hone]
        refine w_ld (x := dS d) h rfl ?_
        rw [hi]
        refine w_call (pump_tri b a (k + 1) { v with so := upL v.so i (some (toldF x v.now d xs).2) } hv2 i (toldF x v.now d xs).2 (upL_same v.so i _) o (by omega)) h fun _ w h => ?_
        have e : pumpM { v with so := upL v.so i (some (toldF x v.now d xs).2) } i (toldF x v.now d xs).2 o = pumpM v i (toldF x v.now d xs).2 o := by
          unfold pumpM
          dsimp only
          rw [upL_upL]
        rw [e] at h
        exact Own.retP c0 h.fin
      · have c0 : ¬ (toldF x v.now d xs).1 = 0 := by simpa using c0
        rw [if_neg c0] at hone
        rw [hone]
        exact Own.retP rfl h.fin
abbrev KOu : Ks := [.sl, .sl, .sl, .int .u64]
def outR (r : Ks.T KOu) (o : Ou) : SP := pur (r.2.2.2 = o.wd) (arr r.1 KS o.dep ^ arr r.2.1 KS o.dr ^ arr r.2.2.1 KI o.ft)
instance (r : Ks.T KOu) (o : Ou) : NoR (outR r o) := by unfold outR; infer_instance
theorem do_tri (b : Nat) (k : Int) (v : Mc) (hv : OkMc k v) (hk : k < 1000000) (d : Dd) (hd : OkD d) (xs : List (Ks.T KR)) (hxl : xs.length ≤ 4294967296) :
    Tri Tryz.prog N_egress_Machine_Do [.lf (.ptr (some ⟨b, 0⟩)), .agg (Ks.mk KD d)] [.agg KOu, .lf (.int .i64)] (mach b v ^ rarr (dR d) KR xs) (fun r => pur (r.2 = (doF v d xs).1.2) (mach b (doF v d xs).2 ^ outR r.1 (doF v d xs).1.1)) :=
  tri_0 (call_egress_Machine_Do (some ⟨b, 0⟩) d) fun w0 S R h => by
    unfold W_egress_Machine_Do
    refine w_new (h.le (star_emp _)) fun n1 w h => w_new h fun n2 w h => w_ite (fun c => (by simp at c)) fun _ => w_new h fun n4 w h => ?_
    have h := h.nil KS
    have h := h.nil KS
    have h := h.nil KI
    have h := h.mkOutp n4 ⟨none, 0, 0⟩ ⟨none, 0, 0⟩ ⟨none, 0, 0⟩ ou0
    have h : Own w0 S R w (blk n1 (Ks.mk KD d) ^ outp n4 ou0 ^ mach b v ^ rarr (dR d) KR xs ^ blk n2 [.sl ⟨none, 0, 0⟩, .sl ⟨none, 0, 0⟩, .sl ⟨none, 0, 0⟩, .int .u64 0] ^ emp) := h.fin
    refine w_join h (fun _ => outp n4 (stepM v d xs).2.1 ^ mach b (stepM v d xs).2.2 ^ blk n2 [.sl ⟨none, 0, 0⟩, .sl ⟨none, 0, 0⟩, .sl ⟨none, 0, 0⟩, .int .u64 0] ^ emp) (fun y : Int => y = (stepM v d xs).1) (fun (y : Int) w hy h => ?_) ?_
    · rw [hy]
      refine w_ite (fun c => ?_) fun c => ?_
      · have c : (stepM v d xs).1 ≠ 0 := by simpa using c
        rw [show doF v d xs = ((ou0, (stepM v d xs).1), (stepM v d xs).2.2) by unfold doF; rw [if_pos c]]
        refine w_setAll h (by rfl) fun w h => w_ldAll (b := n2) (x := ((⟨none, 0, 0⟩, ⟨none, 0, 0⟩, ⟨none, 0, 0⟩, 0) : Ks.T KOu)) h rfl ?_
        have h := h.nil KS
        have h := h.nil KS
        have h := h.nil KI
        have h : Own w0 S R w (outR (⟨none, 0, 0⟩, ⟨none, 0, 0⟩, ⟨none, 0, 0⟩, 0) ou0 ^ mach b (stepM v d xs).2.2 ^ emp) := Own.toPur (p := ((⟨none, 0, 0⟩, ⟨none, 0, 0⟩, ⟨none, 0, 0⟩, 0) : Ks.T KOu).2.2.2 = ou0.wd) (A := arr ⟨none, 0, 0⟩ KS [] ^ arr ⟨none, 0, 0⟩ KS [] ^ arr ⟨none, 0, 0⟩ KI []) rfl h.fin
        exact Own.retP rfl h.fin
      · have c : (stepM v d xs).1 = 0 := by simpa using c
        rw [show doF v d xs = (((stepM v d xs).2.1, 0), (stepM v d xs).2.2) by unfold doF; rw [if_neg (fun x => x c)]]
        obtain ⟨s1, s2, s3, h⟩ := h.outp n4
        refine w_ldAll (b := n4) (x := ((s1, s2, s3, (stepM v d xs).2.1.wd) : Ks.T KOu)) h rfl (w_setAll h (by rfl) fun w h => w_ldAll (b := n2) (x := ((s1, s2, s3, (stepM v d xs).2.1.wd) : Ks.T KOu)) h rfl ?_)
        have h : Own w0 S R w (outR (s1, s2, s3, (stepM v d xs).2.1.wd) (stepM v d xs).2.1 ^ mach b (stepM v d xs).2.2 ^ emp) := Own.toPur (p := ((s1, s2, s3, (stepM v d xs).2.1.wd) : Ks.T KOu).2.2.2 = (stepM v d xs).2.1.wd) (A := arr s1 KS (stepM v d xs).2.1.dep ^ arr s2 KS (stepM v d xs).2.1.dr ^ arr s3 KI (stepM v d xs).2.1.ft) rfl h.fin
        exact Own.retP rfl h.fin
    · refine w_ld (x := dK d) h rfl (w_ite (fun c5 => ?_) fun c5 => ?_)
      · have c5 : dK d = 5 := by simpa using c5
        rw [show stepM v d xs = ((moveF v.now (dA d)).1, ou0, { v with now := (moveF v.now (dA d)).2 }) by unfold stepM; rw [if_pos c5]]
        obtain ⟨p, ck, q, l, h⟩ := h.mach b
        refine w_drw h fun w h => w_deref (w_ld (x := dA d) h rfl (w_ld (x := some ⟨ck, 0⟩) h rfl (w_call (move_tri ck v.now (dA d)) h fun r w h => ?_)))
        obtain ⟨hr, h⟩ := h.purP; rw [hr]
        have h := h.mkMach b p ck q l { v with now := (moveF v.now (dA d)).2 }
        exact ⟨rfl, h.fin⟩
      have c5 : ¬ dK d = 5 := by simpa using c5
      refine w_ite (fun c6 => ?_) fun c6 => ?_
      · have c6 : dK d = 6 := by simpa using c6
        rw [show stepM v d xs = (0, (pullF v ou0).1, (pullF v ou0).2) by unfold stepM; rw [if_neg c5, if_pos c6]]
        refine w_call (pull_tri b n4 k v hv ou0) h fun _ w h => ?_
        exact ⟨rfl, h.fin⟩
      have c6 : ¬ dK d = 6 := by simpa using c6
      refine w_ite (fun c8 => ?_) fun c8 => ?_
      · have c8 : dK d = 8 := by simpa using c8
        rw [show stepM v d xs = ((setM v (dC d)).1, ou0, (setM v (dC d)).2) by unfold stepM; rw [if_neg c5, if_neg c6, if_pos c8]]
        refine w_ld (x := dC d) h rfl (w_call (set_tri b v (dC d)) h fun r w h => ?_)
        obtain ⟨hr, h⟩ := h.purP; rw [hr]
        exact ⟨rfl, h.fin⟩
      have c8 : ¬ dK d = 8 := by simpa using c8
      have estep : stepM v d xs = if isOne (dK d) then oneM v d xs ou0 else (12, ou0, v) := by unfold stepM; rw [if_neg c5, if_neg c6, if_neg c8]
      refine w_join h (fun _ => blk n1 (Ks.mk KD d) ^ outp n4 ou0 ^ mach b v ^ rarr (dR d) KR xs ^ blk n2 [.sl ⟨none, 0, 0⟩, .sl ⟨none, 0, 0⟩, .sl ⟨none, 0, 0⟩, .int .u64 0] ^ emp) (fun y : Bool => y = isOne (dK d)) (fun (y : Bool) w hy h => ?_) ?_
      · rw [hy]
        refine w_ite (fun c => ?_) fun c => ?_
        · rw [if_pos c] at estep
          rw [estep]
          refine w_ldAll (b := n1) (x := d) h rfl ?_
          refine w_callL (A := mach b v ^ outp n4 ou0) (Q := rarr (dR d) KR xs) (one_tri b n4 k v hv hk d hd xs hxl ou0 ⟨by show (0:Nat) ≤ 400; decide, by show (0:Nat) ≤ 400; decide⟩) h fun r w h => ?_
          obtain ⟨hr, h⟩ := h.purP; rw [hr]
          exact ⟨rfl, h.fin⟩
        · rw [if_neg (by rw [c]; simp)] at estep
          rw [estep]
          exact ⟨rfl, h.fin⟩
      · unfold isOne
        refine w_ite (fun c => ⟨by rw [c]; rfl, h⟩) fun d1 => ?_
        refine w_ite (fun c => ⟨by rw [d1, c]; rfl, h⟩) fun d2 => ?_
        refine w_ite (fun c => ⟨by rw [d1, d2, c]; rfl, h⟩) fun d3 => ?_
        refine w_ite (fun c => ⟨by rw [d1, d2, d3, c]; rfl, h⟩) fun d4 => ?_
        refine w_ite (fun c => ⟨by rw [d1, d2, d3, d4, c]; rfl, h⟩) fun d5 => ?_
        exact ⟨by rw [d1, d2, d3, d4, d5]; rfl, h⟩
end EgF

namespace EgG
open Arith ArithC FqM EgM
class NoS (A : SP) : Prop where
  nos : ∀ w S R, A.h w S R → ∀ k, ¬ S k
instance (s : Sl) (K : Ks) (xs : List (Ks.T K)) : NoS (rarr s K xs) := ⟨fun _ _ _ h => h.2.1⟩
instance : NoS emp := ⟨fun _ _ _ h => h.1⟩
instance (A B : SP) [a : NoS A] [b : NoS B] : NoS (A ^ B) := ⟨fun _ _ _ ⟨_, _, _, _, h1, h2, hS, _⟩ k hk => ((hS k).1 hk).elim (a.nos _ _ _ h1 k) (b.nos _ _ _ h2 k)⟩
theorem noS_rl {α : Type} (f : α → SP) (h : ∀ x, NoS (f x)) : ∀ l : List α, NoS (rl f l)
  | [] => by unfold rl; infer_instance
  | x :: l => by have := noS_rl f h l; have := h x; unfold rl; infer_instance
instance {α : Type} (f : α → SP) (l : List α) [h : ∀ x, NoS (f x)] : NoS (rl f l) := noS_rl f h l
instance (priority := 300) lend_take (A F G : SP) [t : Take A F G] [n : NoS A] : Lend A F := ⟨fun w S R h => by
  obtain ⟨S1, R1, S2, R2, h1, h2, hS, hR, _⟩ := t.le w S R h
  have e : S1 = fun _ => False := funext fun k => eq_false (n.nos _ _ _ h1 k)
  rw [e] at h1
  exact ⟨R1, h1, fun k hk => .inr ((hR k).2 (.inl hk))⟩⟩
abbrev KR : Ks := [.int .u64, .int .u64]
abbrev OpE := Dd × List (Ks.T KR)
abbrev opsE (s : Sl) (ps : List OpE) : SP := rarr s KD (ps.map Prod.fst) ^ rl (fun p : OpE => rarr (dR p.1) KR p.2) ps
def deedF (d : Dd) : Dd := (dK d, dS d, (if dL d > 200000 then 200000 else dL d), dU d, dA d, (if (dR d).len > 6 then (dR d).sub 0 6 (dR d).cap 2 else dR d), dC d)
def deedsF (most : Int) (ps : List OpE) : List OpE := (ps.take most.toNat).map fun p => (deedF p.1, p.2.take 6)
structure OkE (p : OpE) : Prop where
  l : -9223372036854775808 ≤ dL p.1 ∧ dL p.1 < 9223372036854775808
  u : U (dU p.1)
  a : U (dA p.1)
  c : 0 ≤ cH (dC p.1) ∧ U (cR (dC p.1))
  n : p.2.length ≤ 9223372036854775807
  cp : (dR p.1).len ≤ (dR p.1).cap
theorem okE_of {p : OpE} (h : ∀ k n, Lf.int k n ∈ Ks.mk KD p.1 → (Lit.int k n).wf = true) (hm : p.2.length ≤ maxLen) (hc : (dR p.1).len ≤ (dR p.1).cap) : OkE p where
  l := Wf.i (h .i64 (dL p.1) (List.mem_of_getElem? (i := 2) rfl))
  u := Wf.u (h .u64 (dU p.1) (List.mem_of_getElem? (i := 3) rfl))
  a := Wf.u (h .u64 (dA p.1) (List.mem_of_getElem? (i := 4) rfl))
  c := ⟨(Wf.u (h .u64 (cH (dC p.1)) (List.mem_of_getElem? (i := 10) rfl))).1, Wf.u (h .u64 (cR (dC p.1)) (List.mem_of_getElem? (i := 11) rfl))⟩
  n := hm
  cp := hc
theorem rd_dR {ps : List OpE} {i : Nat} {o : OpE} (h : ps[i]? = some o) : Rd (dR o.1) (rl (fun p : OpE => rarr (dR p.1) KR p.2) ps) KR o.2 := rd_rl h (rd_rarr _ _ _)
theorem rd_deed (p : OpE) (F : SP) (hc : (dR p.1).len ≤ (dR p.1).cap) (hl : (dR p.1).len = p.2.length) [t : Rd (dR p.1) F KR p.2] : Rd (dR (deedF p.1)) F KR (p.2.take 6) := by
  show Rd (if (dR p.1).len > 6 then (dR p.1).sub 0 6 (dR p.1).cap 2 else dR p.1) F KR (p.2.take 6)
  by_cases h : (dR p.1).len > 6
  · rw [if_pos h]
    exact rd_sub (dR p.1) F KR p.2 0 6 (dR p.1).cap (by omega) (by omega) (by omega)
  · rw [if_neg h, List.take_of_length_le (by omega)]; exact t
abbrev zD : List Lf := [.int .i64 0, .int .i64 0, .int .i64 0, .int .u64 0, .int .u64 0, .sl ⟨none, 0, 0⟩, .int .i64 0, .int .i64 0, .int .i64 0, .int .i64 0, .int .u64 0, .int .u64 0, .bool false, .int .i64 0, .int .i64 0]
theorem deed_tri (d : Dd) (xs : List (Ks.T KR)) (hc : (dR d).len ≤ (dR d).cap) : Tri Tryz.prog N_canterplay_Deed [.agg (Ks.mk KD d)] [.agg KD] (emp ^ rarr (dR d) KR xs) (fun r => pur (r = deedF d) emp) :=
  tri_0 (call_canterplay_Deed d) fun w0 S R h => by
    unfold W_canterplay_Deed
    have hs := (h.drop.rd (s := dR d)).2
    obtain ⟨R', hR'⟩ : ∃ R', R' = (if (dR d).len > 6 then (dR d).sub 0 6 (dR d).cap 2 else dR d) := ⟨_, rfl⟩
    obtain ⟨L', hL'⟩ : ∃ L', L' = (if dL d > 200000 then 200000 else dL d) := ⟨_, rfl⟩
    have e : deedF d = (dK d, dS d, L', dU d, dA d, R', dC d) := by rw [hL', hR']; rfl
    refine w_new h fun n1 w h => w_new h fun n2 w h => ?_
    have h : Own w0 S R w (blk n1 (Ks.mk KD d) ^ blk n2 zD ^ rarr (dR d) KR xs ^ emp) := h.fin
    refine w_join h (fun _ => blk n1 (Ks.mk KD (dK d, dS d, dL d, dU d, dA d, R', dC d)) ^ blk n2 zD ^ emp) (fun _ => True) (fun _ w _ h => ?_) ?_
    · refine w_join h (fun _ => blk n1 (Ks.mk KD (dK d, dS d, L', dU d, dA d, R', dC d)) ^ blk n2 zD ^ emp) (fun _ => True) (fun _ w _ h => ?_) ?_
      · refine w_ldAll (b := n1) (x := ((dK d, dS d, L', dU d, dA d, R', dC d) : Dd)) h rfl (w_setAll h (by rfl) fun w h => w_ldAll (b := n2) (x := ((dK d, dS d, L', dU d, dA d, R', dC d) : Dd)) h rfl ?_)
        exact Own.retP e.symm h.emp'
      · refine w_ld (x := dL d) h rfl (w_ite (fun c => ?_) fun c => ?_)
        · have c : dL d > 200000 := of_decide_eq_true c
          rw [if_pos c] at hL'
          refine w_setTo h n1 (Ks.mk KD (dK d, dS d, L', dU d, dA d, R', dC d)) rfl rfl (by rw [hL']; rfl) fun w h => ?_
          exact ⟨trivial, h.fin⟩
        · have c : ¬ dL d > 200000 := of_decide_eq_false c
          rw [if_neg c] at hL'
          rw [hL']
          exact ⟨trivial, h⟩
    · refine w_ld (x := dR d) h rfl (w_ite (fun c => ?_) fun c => ?_)
      · have c : (((dR d).len : Nat) : Int) > 6 := of_decide_eq_true c
        have c2 : (dR d).len > 6 := by omega
        rw [if_pos c2] at hR'
        have hN : Nrm (dR d) := Nrm.long (h.rd (s := dR d)).1 (by omega)
        refine w_ld (x := dR d) h rfl (w_slcR (K := KR) (xs := xs) (s := dR d) h hN 0 6 (dR d).cap rfl rfl rfl rfl (by omega) (by omega) (by omega) (Nat.le_refl _) fun _ _ => ?_)
        rw [← hR']
        refine w_setTo h n1 (Ks.mk KD (dK d, dS d, dL d, dU d, dA d, R', dC d)) rfl rfl rfl fun w h => ?_
        exact ⟨trivial, h.fin⟩
      · have c : ¬ (((dR d).len : Nat) : Int) > 6 := of_decide_eq_false c
        have c2 : ¬ (dR d).len > 6 := by omega
        rw [if_neg c2] at hR'
        rw [hR']
        exact ⟨trivial, h.fin⟩
theorem deedsF_at {ps : List OpE} {most : Int} {i : Nat} {p : OpE} (h : ps[i]? = some p) (hi : i < most.toNat) : (deedsF most ps)[i]? = some (deedF p.1, p.2.take 6) := by
  unfold deedsF
  rw [List.getElem?_map, List.getElem?_take, if_pos hi, h]; rfl
theorem deeds_tri (s : Sl) (ps : List OpE) (most : Int) (hm : 0 ≤ most ∧ most ≤ 1000) (hp : ∀ p ∈ ps, OkE p) : Tri Tryz.prog N_canterplay_Deeds [.lf (.sl s), .lf (.int .i64 most)] [.lf .sl] (emp ^ opsE s ps) (fun r => arr r KD ((deedsF most ps).map Prod.fst)) :=
  tri_0 (call_canterplay_Deeds s most) fun w0 S R h => by
    unfold W_canterplay_Deeds
    have h : Own w0 S R w0 (rarr s KD (ps.map Prod.fst) ^ rl (fun p : OpE => rarr (dR p.1) KR p.2) ps ^ emp) := h.fin
    have hsl := (h.rd (s := s)).2
    rw [List.length_map] at hsl
    have h := h.nil KD
    have h : Own w0 S R w0 (arr ⟨none, 0, 0⟩ KD ((deedsF 0 ps).map Prod.fst) ^ rarr s KD (ps.map Prod.fst) ^ rl (fun p : OpE => rarr (dR p.1) KR p.2) ps ^ emp) := h
    refine w_loopE (fun (y : Sl × Int) (_ : Unit) => arr y.1 KD ((deedsF y.2 ps).map Prod.fst) ^ rarr s KD (ps.map Prod.fst) ^ rl (fun p : OpE => rarr (dR p.1) KR p.2) ps ^ emp) (fun (y : Sl × Int) _ => 0 ≤ y.2 ∧ y.2 ≤ most) (fun (y : Sl × Int) _ => (most - y.2).toNat) () h ⟨by decide, hm.1⟩ ?_
    rintro K (y : Sl × Int) _ w ⟨h0, h1⟩ h next
    obtain ⟨r, i⟩ := y
    dsimp only at h0 h1 h ⊢
    refine w_ite (fun c => ?_) fun c => ?_
    · have c : i < ps.length ∧ i < most := by
        have c : (decide (i < ((s.len : Nat) : Int)) && decide (i < most)) = true := c
        rw [Bool.and_eq_true, decide_eq_true_eq, decide_eq_true_eq] at c
        omega
      have hi : i.toNat < ps.length := by omega
      have hwi : IntKind.i64.wrap (i + 1) = i + 1 := wi (by omega) (by omega)
      have hin : (i + 1).toNat = i.toNat + 1 := by omega
      obtain ⟨p, hpi⟩ : ∃ p, ps[i.toNat]? = some p := ⟨_, List.getElem?_eq_getElem hi⟩
      have hpm : (ps.map Prod.fst)[i.toNat]? = some p.1 := by rw [List.getElem?_map, hpi]; rfl
      haveI := rd_dR hpi
      have hO := hp p (List.mem_of_getElem? hpi)
      refine w_idx (s := s) h h0 (by rw [List.length_map]; exact hi) (w_ldE h s i.toNat hpm rfl ?_)
      refine w_callL (A := emp) (Q := rarr (dR p.1) KR p.2) (deed_tri p.1 p.2 hO.cp) (h.le ((star_emp _).trans (star_comm _ _))) fun q w h => ?_
      obtain ⟨hq, h⟩ := h.purP; rw [hq]
      refine w_new h fun n6 w h => ?_
      have h := h.blkArr n6 KD [deedF p.1] rfl (by simp)
      have h : Own w0 S R w (arr ⟨some ⟨n6, 0⟩, 1, 1⟩ KD [deedF p.1] ^ _) := h
      have hlen : ((deedsF i ps).map Prod.fst).length ≤ i.toNat := by rw [List.length_map, deedsF, List.length_map, List.length_take]; omega
      refine w_app (K := KD) (s := r) (xs := (deedsF i ps).map Prod.fst) h rfl (by simp only [List.length_singleton]; omega) fun s' w _ h => ?_
      have e : (deedsF i ps).map Prod.fst ++ [deedF p.1] = (deedsF (i + 1) ps).map Prod.fst := by
        unfold deedsF
        rw [hin, List.take_add_one, hpi, List.map_append, List.map_append]; rfl
      rw [e] at h
      rw [hwi]
      exact next (s', i + 1) () w ⟨by show 0 ≤ i + 1; omega, by show i + 1 ≤ most; omega⟩ h.fin (by show (most - (i + 1)).toNat < (most - i).toNat; omega)
    · have e : deedsF i ps = deedsF most ps := by
        unfold deedsF
        have c : ¬ (i < ps.length ∧ i < most) := fun hh => by
          have c : (decide (i < ((s.len : Nat) : Int)) && decide (i < most)) = false := c
          rw [decide_eq_true (by omega), decide_eq_true hh.2] at c; cases c
        by_cases h2 : i < most
        · rw [List.take_of_length_le (by omega : ps.length ≤ i.toNat), List.take_of_length_le (by omega : ps.length ≤ most.toNat)]
        · rw [show i = most by omega]
      rw [e] at h
      exact h.fin
end EgG

namespace EgH
open Arith ArithC TreeF FqM FqC SockC EgM EgA EgB EgC EgD EgE EgF
open SockM (Sk emitS doneS writeS loseS newS skFl skTso mayS)
open SockO (IvS)
open SockV (IvB)
theorem pump_ok {k : Int} {v : Mc} (hv : OkMc k v) {i : Nat} (hi : i < 8) {x : Sk} (hx : IvB k x) (hid : x.id = (i : Int)) (o : Ou) : OkMc k (pumpM v i x o).2 := by
  have h := pumpN_ok hv.un (fresh x + 1) ⟨x, v.q, v.l, o⟩ (⟨hx, hid, hv.q⟩ : OkPm k i ⟨x, v.q, v.l, o⟩)
  have h2 := upS_ok hv hi (x := (pumpF i v.now ⟨x, v.q, v.l, o⟩).v) h.v h.id
  exact { h2 with q := h.q }
theorem shut_ok {k : Int} {v : Mc} (hv : OkMc k v) (i : Nat) (o : Ou) : OkMc k (shutM v i o).2 := by
  have h := upN_ok hv i
  exact { h with q := hv.q.close _ }
theorem pull_ok {k : Int} {v : Mc} (hv : OkMc k v) (o : Ou) : OkMc k (pullF v o).2 := by
  have h := FqN.deq_ok hv.q hv.un (rates_U hv)
  unfold pullF
  split
  · rename_i s q e; rw [e] at h; exact { hv with q := h }
  · rename_i q e; rw [e] at h; exact { hv with q := h }
theorem set_ok {k : Int} {v : Mc} (hv : OkMc k v) {c : Cf} (hc : 0 ≤ cH c ∧ U (cR c)) : OkMc k (setM v c).2 := by
  have h := hv.q.set hc
  unfold setM
  split
  · rename_i h0
    refine { hv with q := h, c := ?_ }
    unfold setF at h0
    by_cases hm : may c = true
    · exact may_ok hm hc.1 hc.2
    · rw [if_neg hm] at h0; cases h0
  · exact { hv with q := h }
theorem one_ok {k : Int} {v : Mc} (hv : OkMc k v) (hk : k < 1000000) (d : Dd) (xs : List (Int × Int)) (o : Ou) : OkMc (k + 1) (oneM v d xs o).2.2 := by
  have h1 := OkMc_le hv (j := k + 1) (by omega) (by omega)
  have hc := hv.c.cap
  unfold oneM
  split
  · exact h1
  · rename_i hi
    have hi : 0 ≤ dS d ∧ dS d < 8 := Classical.not_not.1 hi
    have hi8 : (dS d).toNat < 8 := by omega
    split
    · split
      · have hn := SockV.new_ivB (dS d) (cMss v.c) (cCap v.c) ⟨by omega, hc.2⟩
        exact upS_ok h1 hi8 (ivB_le hn h1.kr.1 (by omega)) (by show dS d = _; omega)
      · exact h1
    · rename_i x hx
      obtain ⟨hxi, hxd, _⟩ := hv.so _ x hx
      split
      · exact h1
      · split
        · exact shut_ok h1 _ _
        · obtain ⟨a, b⟩ := told_ok hxi hk hv.un d xs
          split
          · exact pump_ok h1 hi8 a (b.trans hxd) o
          · exact upS_ok h1 hi8 a (b.trans hxd)
theorem do_ok {k : Int} {v : Mc} (hv : OkMc k v) (hk : k < 1000000) {d : Dd} (hd : OkD d) (xs : List (Int × Int)) : OkMc (k + 1) (doF v d xs).2 := by
  have h1 := OkMc_le hv (j := k + 1) (by omega) (by omega)
  have e : (doF v d xs).2 = (stepM v d xs).2.2 := by unfold doF; split <;> rfl
  rw [e]
  unfold stepM
  split
  · have hn := hv.now
    have ha := hd.a
    unfold U at ha
    refine { h1 with now := ?_ }
    show 0 ≤ (moveF v.now (dA d)).2 ∧ (moveF v.now (dA d)).2 ≤ 4611686018427387904
    unfold moveF
    split
    · exact hn
    · split
      · exact hn
      · exact ⟨ha.1, by show dA d ≤ _; omega⟩
  · split
    · exact pull_ok h1 _
    · split
      · exact set_ok h1 hd.c
      · split
        · exact one_ok hv hk d xs ou0
        · exact h1
theorem new_ok {c : Cf} (hc : OkC c) : OkMc 0 (newM c) where
  c := hc
  now := by show (0:Int) ≤ 0 ∧ (0:Int) ≤ 4611686018427387904; decide
  q := OkQ.new hc
  so := fun i x h => by cases h
  kr := by decide
theorem _root_.Go.X.Own.outR {w0 w : World} {S0 R0 : Nat → Prop} {F G : SP} (h : Own w0 S0 R0 w F) (r : Ks.T KOu) {o : Ou} [tk : TakeK EgF.outR r F o G] : r.2.2.2 = o.wd ∧ Own w0 S0 R0 w (arr r.1 KS o.dep ^ arr r.2.1 KS o.dr ^ arr r.2.2.1 KI o.ft ^ G) := by
  have h : Own w0 S0 R0 w (pur (r.2.2.2 = o.wd) (arr r.1 KS o.dep ^ arr r.2.1 KS o.dr ^ arr r.2.2.1 KI o.ft) ^ G) := h.le tk.le
  obtain ⟨hr, h⟩ := h.purP
  exact ⟨hr, h.fin⟩
theorem nil_rarr (A : SP) (K : Ks) : Le A (A ^ rarr ⟨none, 0, 0⟩ K []) :=
  (star_emp A).trans (star_mono Le.rfl fun w S R h => ⟨⟨⟨by simp [flat], fun _ => rfl, fun q hq => by cases hq⟩, rfl⟩, h.1, fun k => ⟨fun hk => absurd hk (h.2 k), fun hk => absurd rfl hk.2⟩⟩)
theorem do0_tri (b : Nat) (k : Int) (v : Mc) (hv : OkMc k v) (hk : k < 1000000) (d : Dd) (hd : OkD d) (hR : dR d = ⟨none, 0, 0⟩) :
    Tri Tryz.prog N_egress_Machine_Do [.lf (.ptr (some ⟨b, 0⟩)), .agg (Ks.mk KD d)] [.agg KOu, .lf (.int .i64)] (mach b v) (fun r => pur (r.2 = (doF v d []).1.2) (mach b (doF v d []).2 ^ outR r.1 (doF v d []).1.1)) :=
  (do_tri b k v hv hk d hd [] (by simp)).le (by rw [hR]; exact nil_rarr _ _) (fun _ => Le.rfl)
abbrev plainC : Cf := (3000, 15000, 100, 50, 10000000000, 0, false, 100000, 1000)
theorem plain_ok : OkC plainC := FqH.plain_ok
abbrev dOpen (s : Int) : Dd := (1, s, 0, 0, 0, ⟨none, 0, 0⟩, 0, 0, 0, 0, 0, 0, false, 0, 0)
abbrev dSend (s n : Int) : Dd := (2, s, n, 0, 0, ⟨none, 0, 0⟩, 0, 0, 0, 0, 0, 0, false, 0, 0)
abbrev dPull : Dd := (6, 0, 0, 0, 0, ⟨none, 0, 0⟩, 0, 0, 0, 0, 0, 0, false, 0, 0)
theorem dOpen_ok (s : Int) : OkD (dOpen s) := ⟨(by decide : (0:Int) < 9223372036854775808), U_lit 0, U_lit 0, (by decide : (0:Int) ≤ 0), U_lit 0⟩
theorem dSend_ok (s n : Int) (h : n < 9223372036854775808) : OkD (dSend s n) := ⟨h, U_lit 0, U_lit 0, (by decide : (0:Int) ≤ 0), U_lit 0⟩
theorem dPull_ok : OkD dPull := ⟨(by decide : (0:Int) < 9223372036854775808), U_lit 0, U_lit 0, (by decide : (0:Int) ≤ 0), U_lit 0⟩
abbrev aw1 : Mc := (doF (newM plainC) (dOpen 0) []).2
abbrev aw2 : Mc := (doF aw1 (dSend 0 1000) []).2
theorem awake_eq : (doF aw1 (dSend 0 1000) []).1.2 = 0 ∧ (doF aw2 dPull []).1.2 = 0 ∧ (doF aw2 dPull []).1.1.dep = [(0, 0, 1000, 0, false)] := by decide +kernel
theorem awake_tri : Tri Tryz.prog N_canterlaw26_awake [] [.lf .bool] emp (fun r => pur (r = true) emp) :=
  tri_0 call_canterlaw26_awake fun w0 S R h => by
    unfold W_canterlaw26_awake
    obtain ⟨h1, h2, h3⟩ := awake_eq
    have o0 := new_ok plain_ok
    have o1 := do_ok o0 (by decide) (dOpen_ok 0) []
    have o2 := do_ok o1 (by decide) (dSend_ok 0 1000 (by decide)) []
    refine w_call FqH.plain_tri (h.le (star_emp _)) fun r w h => ?_
    obtain ⟨hr, h⟩ := h.purP; rw [hr]
    refine w_call (EgE.new_tri plainC) h fun r w h => ?_
    obtain ⟨b, h⟩ := h.exP
    obtain ⟨hr, h⟩ := h.purP
    rw [if_pos FqH.plain_may] at hr h
    rw [hr]
    have h : Own w0 S R w (mach b (newM plainC) ^ emp) := h.fin
    refine w_join h (fun _ => mach b (newM plainC) ^ emp) (fun _ => True) (fun _ w _ h => ?_) ?_
    · refine w_call (do0_tri b 0 (newM plainC) o0 (by decide) (dOpen 0) (dOpen_ok 0) rfl) h fun r w h => ?_
      obtain ⟨_, h⟩ := h.purP
      have h : Own w0 S R w (mach b aw1 ^ emp) := h.fin
      refine w_call (do0_tri b (0 + 1) aw1 o1 (by decide) (dSend 0 1000) (dSend_ok 0 1000 (by decide)) rfl) h fun r w h => ?_
      obtain ⟨hr, h⟩ := h.purP; rw [hr, h1]
      have h : Own w0 S R w (mach b aw2 ^ emp) := h.fin
      refine w_new h fun n8 w h => w_setAll h (by rfl) fun w h => ?_
      refine w_call (do0_tri b (0 + 1 + 1) aw2 o2 (by decide) dPull dPull_ok rfl) h fun r w h => ?_
      obtain ⟨⟨s1, s2, s3, wd⟩, e⟩ := r
      obtain ⟨hr, h⟩ := h.purP
      dsimp only at hr h ⊢
      rw [hr, h2]
      obtain ⟨_, h⟩ := h.outR (s1, s2, s3, wd)
      dsimp only at h
      rw [h3] at h
      have hl := (h.rd (s := s1)).2
      refine w_new h fun n10 w h => w_setAll h (by rfl) fun w h => w_ite (fun _ => ?_) fun c => (by cases c)
      refine w_ld (x := s1) h rfl (w_ite (fun _ => ?_) fun c => (by rw [hl] at c; cases c))
      refine w_ld (x := s1) h rfl (w_idx (s := s1) h (by decide) (by show 0 < 1; decide) (w_ldA h s1 0 2 ((0, 0, 1000, 0, false) : Sg) rfl rfl (by decide) (x := (1000 : Int)) rfl ?_))
      exact Own.retP rfl h.emp'
    · refine w_ite (fun c => (by cases c)) fun _ => ?_
      refine w_call (queued_tri b (newM plainC)) h fun r w h => ?_
      obtain ⟨hr, h⟩ := h.purP; rw [hr]
      refine w_ite (fun c => (by cases c)) fun _ => ⟨trivial, h⟩
end EgH

namespace EgI
open Arith ArithC TreeF FqM FqC SockC EgM EgA EgB EgC EgD EgE EgF EgG EgH
open SockM (Sk emitS doneS writeS loseS newS skFl skTso mayS)
theorem deedF_ok {p : OpE} (h : OkE p) : OkD (deedF p.1) where
  l := by
    show (if dL p.1 > 200000 then 200000 else dL p.1) < 9223372036854775808
    split <;> omega
  u := h.u
  a := h.a
  c := h.c
theorem pull_now (v : Mc) (o : Ou) : (pullF v o).2.now = v.now := by unfold pullF; split <;> rfl
theorem set_now (v : Mc) (c : Cf) : (setM v c).2.now = v.now := by unfold setM; split <;> rfl
theorem one_now (v : Mc) (d : Dd) (xs : List (Int × Int)) (o : Ou) : (oneM v d xs o).2.2.now = v.now := by
  unfold oneM
  split
  · rfl
  · split
    · split <;> rfl
    · split
      · rfl
      · split
        · rfl
        · split <;> rfl
theorem do_step (v : Mc) (d : Dd) (xs : List (Int × Int)) : (doF v d xs).2 = (stepM v d xs).2.2 := by unfold doF; split <;> rfl
theorem do_err (v : Mc) (d : Dd) (xs : List (Int × Int)) : (doF v d xs).1.2 = (stepM v d xs).1 := by
  unfold doF
  by_cases h : (stepM v d xs).1 ≠ 0
  · rw [if_pos h]
  · rw [if_neg h]; exact (Classical.not_not.1 h).symm
theorem now_clock {v : Mc} {d : Dd} (h : dK d = 5) (xs : List (Int × Int)) : (doF v d xs).1.2 = (moveF v.now (dA d)).1 ∧ (doF v d xs).2.now = (moveF v.now (dA d)).2 := by
  rw [do_err, do_step]
  unfold stepM
  rw [if_pos h]
  exact ⟨rfl, rfl⟩
theorem now_else {v : Mc} {d : Dd} (h : dK d ≠ 5) (xs : List (Int × Int)) : (doF v d xs).2.now = v.now := by
  rw [do_step]
  unfold stepM
  rw [if_neg h]
  split
  · exact pull_now _ _
  · split
    · exact set_now _ _
    · split
      · exact one_now _ _ _ _
      · rfl
theorem move_r (now a : Int) : ((moveF now a).1 = 0 ↔ now ≤ a ∧ a ≤ 4611686018427387904) ∧ ((moveF now a).1 = 0 → (moveF now a).2 = a) ∧ ((moveF now a).1 ≠ 0 → (moveF now a).2 = now) := by
  unfold moveF
  split
  · exact ⟨⟨fun h => (by cases h), fun h => (by omega)⟩, fun h => (by cases h), fun _ => rfl⟩
  · split
    · exact ⟨⟨fun h => (by cases h), fun h => (by omega)⟩, fun h => (by cases h), fun _ => rfl⟩
    · exact ⟨⟨fun _ => (by omega), fun _ => rfl⟩, fun _ => rfl, fun h => absurd rfl h⟩
theorem clock_tri (s : Sl) (ps : List OpE) (hp : ∀ p ∈ ps, OkE p) : Tri Tryz.prog N_canterlaw26_EgressClock [.lf (.sl s)] [.lf .bool] (opsE s ps) (fun r => pur (r = true) emp) :=
  tri_0 (call_canterlaw26_EgressClock s) fun w0 S R h => by
    unfold W_canterlaw26_EgressClock
    have h : Own w0 S R w0 (opsE s ps) := h
    have hsl := (h.rd (s := s)).2
    rw [List.length_map] at hsl
    refine w_call FqH.plain_tri (h.le ((star_emp _).trans (star_comm _ _))) fun r w h => ?_
    obtain ⟨hr, h⟩ := h.purP; rw [hr]
    refine w_call (EgE.new_tri FqH.plainC) h fun r w h => ?_
    obtain ⟨b, h⟩ := h.exP
    obtain ⟨hr, h⟩ := h.purP
    rw [if_pos FqH.plain_may] at hr h
    rw [hr]
    refine w_call awake_tri (h.le ((star_emp _).trans (star_comm _ _))) fun r w h => ?_
    obtain ⟨hr, h⟩ := h.purP; rw [hr]
    refine w_ite (fun c => (by cases c)) fun _ => ?_
    refine w_callL (A := emp) (Q := opsE s ps) (deeds_tri s ps 60 (by decide) hp) (h.le ((star_emp _).trans (star_comm _ _))) fun r4 w h => ?_
    have h : Own w0 S R w (mach b (newM FqH.plainC) ^ arr r4 KD ((deedsF 60 ps).map Prod.fst) ^ opsE s ps) := h.fin
    have hr4 := (h.rd (s := r4)).2
    rw [List.length_map, deedsF, List.length_map, List.length_take] at hr4
    refine w_loopE (fun (_ : Int) (v : Mc) => mach b v ^ arr r4 KD ((deedsF 60 ps).map Prod.fst) ^ opsE s ps) (fun (y : Int) v => (0 ≤ y ∧ y ≤ 60) ∧ OkMc y v) (fun (y : Int) _ => (60 - y).toNat) (newM FqH.plainC) h ⟨by decide, new_ok FqH.plain_ok⟩ ?_
    rintro K (i : Int) v w ⟨hir, hv⟩ h next
    refine w_ite (fun c => ?_) fun c => Own.retP rfl h.emp'
    have c : i < ((r4.len : Nat) : Int) := of_decide_eq_true c
    have hi : i.toNat < ps.length ∧ i.toNat < (60 : Int).toNat := by
      have : (60 : Int).toNat = 60 := rfl
      omega
    have hwi : IntKind.i64.wrap (i + 1) = i + 1 := wi (by omega) (by omega)
    obtain ⟨p, hpi⟩ : ∃ p, ps[i.toNat]? = some p := ⟨_, List.getElem?_eq_getElem hi.1⟩
    have hdi := deedsF_at hpi hi.2
    have hdm : ((deedsF 60 ps).map Prod.fst)[i.toNat]? = some (deedF p.1) := by rw [List.getElem?_map, hdi]; rfl
    have hlt : i.toNat < ((deedsF 60 ps).map Prod.fst).length := (List.getElem?_eq_some_iff.1 hdm).1
    have hO := hp p (List.mem_of_getElem? hpi)
    haveI := rd_dR hpi
    have hdl := (h.rd (s := dR p.1)).2
    haveI := rd_deed p (rl (fun p : OpE => rarr (dR p.1) KR p.2) ps) hO.cp hdl
    obtain ⟨d, hd⟩ : ∃ d, d = deedF p.1 := ⟨_, rfl⟩
    have hD := deedF_ok hO
    rw [← hd] at hdm hD this
    have hx6 : (p.2.take 6).length ≤ 4294967296 := by rw [List.length_take]; omega
    refine w_call (mnow_tri b v) h fun r w h => ?_
    obtain ⟨hr, h⟩ := h.purP; rw [hr]
    refine w_idx (s := r4) h hir.1 hlt (w_ldE h r4 i.toNat hdm rfl ?_)
    refine w_callL (A := mach b v) (Q := rarr (dR d) KR (p.2.take 6)) (do_tri b i v hv (by omega) d hD (p.2.take 6) hx6) h fun r w h => ?_
    obtain ⟨ro, re⟩ := r
    obtain ⟨hre, h⟩ := h.purP
    dsimp only at hre h ⊢
    rw [hre]
    have hv' := do_ok hv (by omega) hD (p.2.take 6)
    obtain ⟨v', hve⟩ : ∃ v', v' = (doF v d (p.2.take 6)).2 := ⟨_, rfl⟩
    obtain ⟨e, hee⟩ : ∃ e, e = (doF v d (p.2.take 6)).1.2 := ⟨_, rfl⟩
    rw [← hve] at h hv'
    rw [← hee]
    have hn5 : dK d = 5 → (e = 0 ↔ v.now ≤ dA d ∧ dA d ≤ 4611686018427387904) ∧ v'.now = if e = 0 then dA d else v.now := fun h5 => by
      obtain ⟨h1, h2⟩ := now_clock (v := v) h5 (p.2.take 6)
      obtain ⟨m1, m2, m3⟩ := move_r v.now (dA d)
      rw [hee, hve, h1, h2]
      refine ⟨m1, ?_⟩
      by_cases hz : (moveF v.now (dA d)).1 = 0
      · rw [if_pos hz]; exact m2 hz
      · rw [if_neg hz]; exact m3 hz
    have hn0 : dK d ≠ 5 → v'.now = v.now := fun h5 => by rw [hve]; exact now_else h5 _
    have h : Own w0 S R w (mach b v' ^ arr r4 KD ((deedsF 60 ps).map Prod.fst) ^ opsE s ps) := h.fin
    refine w_new h fun n11 w h => w_setAll h (by rfl) fun w h => ?_
    have h : Own w0 S R w (mach b v' ^ arr r4 KD ((deedsF 60 ps).map Prod.fst) ^ opsE s ps) := h.fin
    have nx : ∀ w : World, Own w0 S R w (mach b v' ^ arr r4 KD ((deedsF 60 ps).map Prod.fst) ^ opsE s ps) → K (IntKind.i64.wrap (i + 1)) w := fun w h => by
      rw [hwi]
      exact next (i + 1) v' w ⟨⟨by omega, by omega⟩, hv'⟩ h (by show (60 - (i + 1)).toNat < (60 - i).toNat; omega)
    refine w_join h (fun _ => mach b v' ^ arr r4 KD ((deedsF 60 ps).map Prod.fst) ^ opsE s ps) (fun y : Int => y = v'.now) (fun (y : Int) w hy h => ?_) ?_
    · rw [hy]
      refine w_join h (fun _ => mach b v' ^ arr r4 KD ((deedsF 60 ps).map Prod.fst) ^ opsE s ps) (fun y : Bool => y = false) (fun (y : Bool) w hy h => ?_) ?_
      · rw [hy]
        refine w_ite (fun c => (by cases c)) fun _ => nx w h
      · refine w_call (mnow_tri b v') h fun r w h => ?_
        obtain ⟨hr, h⟩ := h.purP; rw [hr]
        refine w_ite (fun c => (by simp at c)) fun _ => ?_
        refine w_call (mnow_tri b v') h fun r w h => ?_
        obtain ⟨hr, h⟩ := h.purP; rw [hr]
        refine w_ite (fun c => ?_) fun c => ?_
        · exfalso
          have c : v'.now < v.now := of_decide_eq_true c
          by_cases h5 : dK d = 5
          · obtain ⟨m1, m2⟩ := hn5 h5
            rw [m2] at c
            split at c
            · rename_i h0; have := (m1.1 h0).1; omega
            · omega
          · rw [hn0 h5] at c; omega
        · refine w_idx (s := r4) h hir.1 hlt (w_ldA h r4 i.toNat 0 d hdm rfl (by decide) (x := dK d) rfl (w_ite (fun c5 => ?_) fun c5 => ?_))
          · have c5 : dK d = 5 := by simpa using c5
            obtain ⟨m1, m2⟩ := hn5 c5
            refine w_idx (s := r4) h hir.1 hlt (w_ldA h r4 i.toNat 4 d hdm rfl (by decide) (x := dA d) rfl (w_ite (fun ca => ?_) fun ca => ?_))
            · have ca : dA d ≥ v.now := of_decide_eq_true ca
              refine w_idx (s := r4) h hir.1 hlt (w_ldA h r4 i.toNat 4 d hdm rfl (by decide) (x := dA d) rfl ?_)
              refine ⟨?_, h⟩
              show (!((e == 0) == decide (dA d ≤ 4611686018427387904))) = false
              by_cases hz : dA d ≤ 4611686018427387904
              · rw [decide_eq_true hz, (m1.2 ⟨ca, hz⟩)]; rfl
              · rw [decide_eq_false hz, show (e == 0) = false from by rw [beq_eq_false_iff_ne]; exact fun x => hz (m1.1 x).2]; rfl
            · have ca : ¬ dA d ≥ v.now := of_decide_eq_false ca
              refine ⟨?_, h⟩
              show (!((e == 0) == false)) = false
              rw [show (e == 0) = false from by rw [beq_eq_false_iff_ne]; exact fun x => ca (m1.1 x).1]; rfl
          · exact ⟨rfl, h⟩
    · refine w_idx (s := r4) h hir.1 hlt (w_ldA h r4 i.toNat 0 d hdm rfl (by decide) (x := dK d) rfl (w_ite (fun c5 => ?_) fun c5 => ?_))
      · rw [Bool.and_eq_true, beq_iff_eq, beq_iff_eq] at c5
        refine w_idx (s := r4) h hir.1 hlt (w_ldA h r4 i.toNat 4 d hdm rfl (by decide) (x := dA d) rfl ?_)
        refine ⟨?_, h⟩
        have := (hn5 c5.1).2
        rw [if_pos c5.2] at this
        exact this.symm
      · refine ⟨?_, h⟩
        by_cases h5 : dK d = 5
        · have := (hn5 h5).2
          rw [if_neg (fun x => by rw [h5, x] at c5; cases c5)] at this
          exact this.symm
        · exact (hn0 h5).symm
end EgI

end Go.X
