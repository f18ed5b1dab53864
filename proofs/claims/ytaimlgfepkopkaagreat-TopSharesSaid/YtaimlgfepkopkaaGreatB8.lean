/- Contracts and plain facts: EgC EgD EgE EgF EgG EgH EgI EgJ EgK EgL EgN EgO EgP EgQ. -/
import Derived.Test.YtaimlgfepkopkaaGreatB0
import Derived.Test.YtaimlgfepkopkaaGreatB1
import Derived.Test.YtaimlgfepkopkaaGreatB2
import Derived.Test.YtaimlgfepkopkaaGreatB3
import Derived.Test.YtaimlgfepkopkaaGreatB4
import Derived.Test.YtaimlgfepkopkaaGreatB5
import Derived.Test.YtaimlgfepkopkaaGreatB6
import Derived.Test.YtaimlgfepkopkaaGreatB7
import Derived.Test.YtaimlgfepkopkaaGreatK
import Derived.Test.YtaimlgfepkopkaaGreatF0
import Derived.Test.YtaimlgfepkopkaaGreatF1
import Derived.Test.YtaimlgfepkopkaaGreatF2
set_option linter.unusedVariables false
set_option linter.unusedSimpArgs false
set_option linter.unusedSectionVars false
namespace Go.X
open Go.Proofs
namespace EgC
open Arith ArithC TreeF FqM FqC SockC EgM EgA EgB
open SockM (Sk emitS doneS writeS loseS newS skFl skTso)
theorem rates_at (so:Nat→Option Sk) {i:Nat} (h:i < 8):(ratesF so)[i]?=some (rateO (so i)):=by
 rcases lt8 h with rfl | rfl | rfl | rfl | rfl | rfl | rfl | rfl<;>rfl
theorem rates_U {k:Int} {v:Mc} (hv:OkMc k v):∀ x∈ratesF v.so,U x:=by
 have one:∀ i,U (rateO (v.so i)):=fun i=>by
  unfold rateO
  split
  ·exact ⟨by decide,by decide⟩
  ·rename_i x hx;exact (hv.so i x hx).1.i.ok.md.rate
 intro x hx
 obtain ⟨i,hi⟩:=List.mem_iff_getElem?.1 hx
 have hi8:i < 8:=by have:=(List.getElem?_eq_some_iff.1 hi).1;exact this
 rw [rates_at v.so hi8] at hi
 cases hi
 exact one i
abbrev KP8:Ks:=[.ptr,.ptr,.ptr,.ptr,.ptr,.ptr,.ptr,.ptr]
abbrev p8 (p:Nat→Option Pt):Ks.T KP8:=(p 0,p 1,p 2,p 3,p 4,p 5,p 6,p 7)
theorem p8_at (p:Nat→Option Pt) {i:Nat} (h:i < 8):Ks.mk [.ptr] (p i)=((Ks.mk KP8 (p8 p)).drop (i * 1)).take 1:=by
 rcases lt8 h with rfl | rfl | rfl | rfl | rfl | rfl | rfl | rfl<;>rfl
theorem rates_tri (b:Nat) (k:Int) (v:Mc) (hv:OkMc k v) (p:Nat→Option Pt) (ck q l:Nat):Tri Tryz.prog N_egress_Machine_rates [.lf (.ptr (some ⟨b,0⟩))] [.lf .sl] (blk b (mL v.c ck p q l)^AllK p v.so) (fun r=>arr r KU (ratesF v.so)^blk b (mL v.c ck p q l)^AllK p v.so) :=
 tri_0 (call_egress_Machine_rates (some ⟨b,0⟩)) fun w0 S R h=>by
  unfold W_egress_Machine_rates
  refine w_deref (w_ld (x:=p8 p) h rfl ?_)
  have h:=h.nil KU
  have h:Own w0 S R w0 (arr ⟨none,0,0⟩ KU ((ratesF v.so).take 0)^blk b (mL v.c ck p q l)^AllK p v.so):=h
  refine w_loopE (fun (y:Sl × Int) (_:Unit)=>arr y.1 KU ((ratesF v.so).take y.2.toNat)^blk b (mL v.c ck p q l)^AllK p v.so) (fun (y:Sl × Int) _=>0≤y.2∧y.2≤8) (fun (y:Sl × Int) _=>(8 - y.2).toNat) () h ⟨by decide,by decide⟩ ?_
  rintro K (y:Sl × Int) _ w ⟨h0,h1⟩ h k
  obtain ⟨s,i⟩:=y
  dsimp only at h0 h1 h ⊢
  refine w_ite (fun c=>?_) fun c=>?_
  ·have c:i < 8:=of_decide_eq_true c
   have hi8:i.toNat < 8:=by omega
   have hwi:IntKind.i64.wrap (i+1)=i+1:=wi (by omega) (by omega)
   have hin:(i+1).toNat=i.toNat+1:=by omega
   refine ⟨⟨h0,c⟩,p i.toNat,p8_at p hi8,?_⟩
   rw [hwi]
   have hlen:((ratesF v.so).take i.toNat).length=i.toNat:=by rw [List.length_take];show min i.toNat 8=_;omega
   refine w_join h (fun _=>arr s KU ((ratesF v.so).take i.toNat)^blk b (mL v.c ck p q l)^AllK p v.so) (fun r:Int=>r=rateO (v.so i.toNat)) (fun (r:Int) w hr h=>?_) ?_
   ·refine w_new h fun n9 w h=>?_
    have h:=h.blkArr n9 KU [r] rfl (by simp)
    have h:Own w0 S R w (arr ⟨some ⟨n9,0⟩,1,1⟩ KU [r]^_):=h
    refine w_app (K:=KU) (s:=s) (xs:=(ratesF v.so).take i.toNat) h rfl (by rw [hlen];simp only [List.length_singleton];omega) fun s' w _ h=>?_
    have e:(ratesF v.so).take i.toNat++[r]=(ratesF v.so).take (i+1).toNat:=by
     rw [hin,List.take_add_one,rates_at v.so hi8,hr];rfl
    rw [e] at h
    exact k (s',i+1) () w ⟨by show 0≤i+1;omega,by show i+1≤8;omega⟩ h.fin (by show (8 - (i+1)).toNat < (8 - i).toNat;omega)
   ·cases hs:v.so i.toNat with
    | none =>
     obtain ⟨hp,_⟩:=h.noK p v.so hi8 hs
     rw [hp]
     refine w_ite (fun c=>(by simp at c)) fun _=>?_
     exact ⟨rfl,h⟩
    | some x =>
     obtain ⟨a,hp,h⟩:=h.outK p v.so hi8 hs
     rw [hp]
     refine w_ite (fun _=>?_) fun c=>(by simp at c)
     refine w_call (SockC.model_tri a x) h fun r w h=>?_
     obtain ⟨hr,h⟩:=h.purP;rw [hr]
     have h:=h.inK p v.so hi8 p v.so a x (fun _ _=>rfl) (fun _ _=>rfl) hp hs
     exact ⟨rfl,h.fin⟩
  ·have c:¬ i < 8:=of_decide_eq_false c
   have e:(ratesF v.so).take i.toNat=ratesF v.so:=List.take_of_length_le (by show 8≤i.toNat;omega)
   rw [e] at h
   exact h
abbrev KI:Ks:=[.int .i64]
def outp (a:Nat) (o:Ou):SP:=ex fun s:Sl × Sl × Sl=>blk a [.sl s.1,.sl s.2.1,.sl s.2.2,.int .u64 o.wd]^arr s.1 KS o.dep^arr s.2.1 KS o.dr^arr s.2.2 KI o.ft
instance (a:Nat) (o:Ou):NoR (outp a o):=by unfold outp;infer_instance
section
variable {w0 w : World} {S0 R0 : Nat → Prop} {F G : SP}
theorem _root_.Go.X.Own.outp (h:Own w0 S0 R0 w F) (b:Nat) {v:Ou} [tk:TakeK EgC.outp b F v G]:∃ (s1 s2 s3:Sl),Own w0 S0 R0 w (blk b [.sl s1,.sl s2,.sl s3,.int .u64 v.wd]^arr s1 KS v.dep^arr s2 KS v.dr^arr s3 KI v.ft^G):=by
 obtain ⟨s,h⟩:=(h.le tk.le).exP
 exact ⟨s.1,s.2.1,s.2.2,h.fin⟩
theorem _root_.Go.X.Own.mkOutp (h:Own w0 S0 R0 w F) (b:Nat) (s1 s2 s3:Sl) (v:Ou) [tk:Take (blk b [.sl s1,.sl s2,.sl s3,.int .u64 v.wd]^arr s1 KS v.dep^arr s2 KS v.dr^arr s3 KI v.ft) F G]:Own w0 S0 R0 w (EgC.outp b v^G) :=
 Own.toEx (f:=fun s:Sl × Sl × Sl=>blk b [.sl s.1,.sl s.2.1,.sl s.2.2,.int .u64 v.wd]^arr s.1 KS v.dep^arr s.2.1 KS v.dr^arr s.2.2 KI v.ft) (s1,s2,s3) (h.le tk.le)
end
def pullE (m o:Nat) (n6:Nat) (is:Bool) (R:WP):WP :=
 ite' is (
 drw <|
 deref (some ⟨m,0⟩) fun q7 =>
 ld [.int .i64] ⟨n6,0⟩ fun (x8:Int) =>
 ld [.ptr] ⟨q7.b,q7.o+19⟩ fun (x9:Option Pt) =>
 call Tryz.prog N_ledger_Ledger_Note [.lf (.ptr x9),.lf (.int .i64 x8),.lf (.int .i64 (1:Int))] [.lf (.int .i64)] fun (r10:Int) =>
 ld KS ⟨n6,0⟩ fun (x11:Sg) =>
 new [.int .i64 x11.1,.int .u64 x11.2.1,.int .i64 x11.2.2.1,.int .u64 x11.2.2.2.1,.bool x11.2.2.2.2] fun n12 =>
 deref (some ⟨o,0⟩) fun q13 =>
 st q13 [.sl ⟨some ⟨n12,0⟩,1,1⟩] <|
 R) <|
 deref (some ⟨m,0⟩) fun q14 =>
 ld [.ptr] ⟨q14.b,q14.o+18⟩ fun (x15:Option Pt) =>
 call Tryz.prog N_fq_Queue_Watchdog [.lf (.ptr x15)] [.lf (.int .u64),.lf .bool] fun (r16:Int × Bool) =>
 ite' r16.2 (
 deref (some ⟨o,0⟩) fun q17 =>
 st ⟨q17.b,q17.o+3⟩ [.int .u64 (if (1:Int) > r16.1 then (1:Int) else r16.1)] <|
 R) <|
 R
theorem w_pullE {w0 w:World} {S0 R0:Nat→Prop} {G:SP} {R:WP} {b a n6 ck q l:Nat} {p:Nat→Option Pt} {v:Mc} {o:Ou}
  (h:Own w0 S0 R0 w (blk n6 (Ks.mk KS (FqG.outS (deqF v.q v.now (ratesF v.so)).1).1)^(blk b (mL ({ v with q:=(deqF v.q v.now (ratesF v.so)).2 }).c ck p q l)^blk ck [.int .u64 ({ v with q:=(deqF v.q v.now (ratesF v.so)).2 }).now]^que q ({ v with q:=(deqF v.q v.now (ratesF v.so)).2 }).q^led l ({ v with q:=(deqF v.q v.now (ratesF v.so)).2 }).l^AllK p ({ v with q:=(deqF v.q v.now (ratesF v.so)).2 }).so)^outp a o^G))
  (k:∀ w',Own w0 S0 R0 w' (mach b (pullF v o).2^outp a (pullF v o).1^G)→R w'):pullE b a n6 (FqG.outS (deqF v.q v.now (ratesF v.so)).1).2 R w:=by
 unfold pullE
 cases hd:deqF v.q v.now (ratesF v.so) with
 | mk x q' =>
 rw [hd] at h
 dsimp only at h ⊢
 cases x with
 | some s =>
  have e:pullF v o=({ o with dep:=[s] },{ v with q:=q',l:=(noteL v.l (sK s) 1).2 }):=by unfold pullF;rw [hd]
  rw [e] at k
  refine w_ite (fun _=>?_) fun c=>(by cases c)
  refine w_drw h fun w h=>w_deref (w_ld (x:=sK s) h rfl (w_ld (x:=some ⟨l,0⟩) h rfl (w_call (note_tri l v.l (sK s) 1) h fun r w h=>?_)))
  obtain ⟨_,h⟩:=h.purP
  refine w_ldAll (b:=n6) (x:=s) h rfl (w_new h fun n12 w h=>?_)
  have h:=h.blkArr n12 KS [s] rfl (by simp)
  have h:Own w0 S0 R0 w (arr ⟨some ⟨n12,0⟩,1,1⟩ KS [s]^_):=h
  obtain ⟨s1,s2,s3,h⟩:=h.outp a
  refine w_deref (w_setTo h a [.sl ⟨some ⟨n12,0⟩,1,1⟩,.sl s2,.sl s3,.int .u64 o.wd] rfl rfl rfl fun w h=>?_)
  have h:=h.mkOutp a ⟨some ⟨n12,0⟩,1,1⟩ s2 s3 { o with dep:=[s] }
  have h:=h.mkMach b p ck q l { v with q:=q',l:=(noteL v.l (sK s) 1).2 }
  exact k w h.fin
 | none =>
  refine w_ite (fun c=>(by cases c)) fun _=>?_
  refine w_deref (w_ld (x:=some ⟨q,0⟩) h rfl (w_call (FqE.min_tri q q') h fun r w h=>?_))
  obtain ⟨hr,h⟩:=h.purP;rw [hr]
  dsimp only
  refine w_ite (fun c=>?_) fun c=>?_
  ·have e:pullF v o=({ o with wd:=if 1 > (minF q'.ks).1.1 then 1 else (minF q'.ks).1.1 },{ v with q:=q' }):=by unfold pullF;rw [hd];dsimp only;rw [if_pos c]
   rw [e] at k
   obtain ⟨s1,s2,s3,h⟩:=h.outp a
   refine w_deref (w_setTo h a [.sl s1,.sl s2,.sl s3,.int .u64 (if (1:Int) > (minF q'.ks).1.1 then (1:Int) else (minF q'.ks).1.1)] rfl rfl rfl fun w h=>?_)
   have h:=h.mkOutp a s1 s2 s3 { o with wd:=if 1 > (minF q'.ks).1.1 then 1 else (minF q'.ks).1.1 }
   have h:=h.mkMach b p ck q l { v with q:=q' }
   exact k w h.fin
  ·have e:pullF v o=(o,{ v with q:=q' }):=by unfold pullF;rw [hd];dsimp only;rw [if_neg (by rw [c];simp)]
   rw [e] at k
   have h:=h.mkMach b p ck q l { v with q:=q' }
   exact k w h.fin
theorem w_both {A B:WP} {w:World} (h:A w) (k:B w):both A B w:=⟨h,k⟩
theorem pull_tri (b a:Nat) (k:Int) (v:Mc) (hv:OkMc k v) (o:Ou):Tri Tryz.prog N_egress_Machine_pull [.lf (.ptr (some ⟨b,0⟩)),.lf (.ptr (some ⟨a,0⟩))] [] (mach b v^outp a o) (fun _=>mach b (pullF v o).2^outp a (pullF v o).1) :=
 tri_0 (call_egress_Machine_pull (some ⟨b,0⟩) (some ⟨a,0⟩)) fun w0 S R h=>by
  unfold W_egress_Machine_pull
  obtain ⟨p,ck,q,l,h⟩:=(h.le (star_emp _)).mach b
  have hU:=rates_U hv
  have zS:List Lf:=[.int .i64 0,.int .u64 0,.int .i64 0,.int .u64 0,.bool false]
  have fin:∀ {w:World} {n6:Nat},Own w0 S R w (blk n6 (Ks.mk KS (FqG.outS (deqF v.q v.now (ratesF v.so)).1).1)^(blk b (mL ({ v with q:=(deqF v.q v.now (ratesF v.so)).2 }).c ck p q l)^blk ck [.int .u64 ({ v with q:=(deqF v.q v.now (ratesF v.so)).2 }).now]^que q ({ v with q:=(deqF v.q v.now (ratesF v.so)).2 }).q^led l ({ v with q:=(deqF v.q v.now (ratesF v.so)).2 }).l^AllK p ({ v with q:=(deqF v.q v.now (ratesF v.so)).2 }).so)^outp a o^emp)→pullE b a n6 (FqG.outS (deqF v.q v.now (ratesF v.so)).1).2 (fun w=>Own w0 S R w (mach b (pullF v o).2^outp a (pullF v o).1)) w:=fun {w n6} h=>w_pullE h fun w' h=>h.fin
  refine w_drw h fun w h=>w_deref (w_ld (x:=some ⟨q,0⟩) h rfl (w_both ?_ ?_))
  ·refine w_call (mnowO_tri b v.c p ck q l v.now) h fun r w h=>?_
   obtain ⟨hr,h⟩:=h.purP;rw [hr]
   refine w_chk h rfl (w_both ?_ ?_)
   ·refine w_call (rates_tri b k v hv p ck q l) h fun r w h=>?_
    refine w_chk h rfl (w_both ?_ ?_)
    ·refine w_callL (A:=que q v.q) (Q:=rarr r KU (ratesF v.so)) (FqG.deq_tri q v.q hv.q v.now hv.un r (ratesF v.so) hU) h fun r w h=>?_
     obtain ⟨hr,h⟩:=h.purP;rw [hr]
     refine w_new h fun n6 w h=>w_chk h rfl (w_setAll h (by rfl) fun w h=>?_)
     exact fin h.fin
    ·refine w_new h fun n6 w h=>w_chk h rfl ?_
     refine w_callL (A:=que q v.q) (Q:=rarr r KU (ratesF v.so)) (FqG.deq_tri q v.q hv.q v.now hv.un r (ratesF v.so) hU) h fun r w h=>?_
     obtain ⟨hr,h⟩:=h.purP;rw [hr]
     refine w_setAll h (by rfl) fun w h=>?_
     exact fin h.fin
   ·refine w_new h fun n6 w h=>w_chk h rfl ?_
    refine w_call (rates_tri b k v hv p ck q l) h fun r w h=>?_
    refine w_chk h rfl ?_
    refine w_callL (A:=que q v.q) (Q:=rarr r KU (ratesF v.so)) (FqG.deq_tri q v.q hv.q v.now hv.un r (ratesF v.so) hU) h fun r w h=>?_
    obtain ⟨hr,h⟩:=h.purP;rw [hr]
    refine w_setAll h (by rfl) fun w h=>?_
    exact fin h.fin
  ·refine w_new h fun n6 w h=>w_chk h rfl ?_
   refine w_call (mnowO_tri b v.c p ck q l v.now) h fun r w h=>?_
   obtain ⟨hr,h⟩:=h.purP;rw [hr]
   refine w_chk h rfl ?_
   refine w_call (rates_tri b k v hv p ck q l) h fun r w h=>?_
   refine w_chk h rfl ?_
   refine w_callL (A:=que q v.q) (Q:=rarr r KU (ratesF v.so)) (FqG.deq_tri q v.q hv.q v.now hv.un r (ratesF v.so) hU) h fun r w h=>?_
   obtain ⟨hr,h⟩:=h.purP;rw [hr]
   refine w_setAll h (by rfl) fun w h=>?_
   exact fin h.fin
end EgC

namespace EgD
open Arith ArithC TreeF FqM FqC SockC EgM EgA EgB EgC
open SockM (Sk emitS doneS writeS loseS newS skFl skTso mayS)
open SockQ (Went gN gF gS gA emit_went)
open SockO (IvS pcs_lost lost_mem)
open SockV (IvB)
theorem drop_tri (b a:Nat) (c:Cf) (p:Nat→Option Pt) (ck q l:Nat) (L:Nat→Ct) (o:Ou) (s:Sg) (f:Int) (hl:o.dr.length≤1000∧o.ft.length≤1000):Tri Tryz.prog N_egress_Machine_drop [.lf (.ptr (some ⟨b,0⟩)),.lf (.ptr (some ⟨a,0⟩)),.agg (Ks.mk KS s),.lf (.int .i64 f)] []
  (blk b (mL c ck p q l)^led l L^outp a o) (fun _=>blk b (mL c ck p q l)^led l (dropF L o s f).2^outp a (dropF L o s f).1) :=
 tri_0 (call_egress_Machine_drop (some ⟨b,0⟩) (some ⟨a,0⟩) s f) fun w0 S R h=>by
  unfold W_egress_Machine_drop
  refine w_new (h.le (star_emp _)) fun n1 w h=>w_drw h fun w h=>w_deref (w_ld (x:=sK s) h rfl (w_ld (x:=some ⟨l,0⟩) h rfl (w_call (note_tri l L (sK s) f) h fun r w h=>?_)))
  obtain ⟨_,h⟩:=h.purP
  obtain ⟨s1,s2,s3,h⟩:=h.outp a
  have hl2:o.dr.length+[s].length≤4294967296:=by have:=hl.1;simp only [List.length_singleton];omega
  have hl3:o.ft.length+[f].length≤4294967296:=by have:=hl.2;simp only [List.length_singleton];omega
  have fin:∀ {w:World} {t2 t3:Sl},Own w0 S R w (arr t3 KI (o.ft++[f])^arr t2 KS (o.dr++[s])^blk a [.sl s1,.sl s2,.sl s3,.int .u64 o.wd]^arr s1 KS o.dep^blk b (mL c ck p q l)^led l (noteL L (sK s) f).2^emp) →
    (deref (some ⟨a,0⟩) fun q15=>st ⟨q15.b,q15.o+1⟩ [.sl t2] <| deref (some ⟨a,0⟩) fun q16=>st ⟨q16.b,q16.o+2⟩ [.sl t3] <| fun w=>Own w0 S R w (blk b (mL c ck p q l)^led l (dropF L o s f).2^outp a (dropF L o s f).1)) w:=by
   intro w t2 t3 h
   refine w_deref (w_setTo h a [.sl s1,.sl t2,.sl s3,.int .u64 o.wd] rfl rfl rfl fun w h=>?_)
   refine w_deref (w_setTo h a [.sl s1,.sl t2,.sl t3,.int .u64 o.wd] rfl rfl rfl fun w h=>?_)
   have h:=h.mkOutp a s1 t2 t3 { o with dr:=o.dr++[s],ft:=o.ft++[f] }
   exact h.fin (A:=blk b (mL c ck p q l)^led l (noteL L (sK s) f).2^outp a { o with dr:=o.dr++[s],ft:=o.ft++[f] })
  refine w_drw h fun w h=>w_ldAll (b:=n1) (x:=s) h rfl (w_deref (w_deref (w_ld (x:=s2) h rfl (w_ld (x:=s3) h rfl (w_both ?_ ?_)))))
  ·refine w_new h fun n11 w h=>w_chk h rfl (w_chk h rfl (w_both ?_ ?_))
   ·have h:=h.blkArr n11 KS [s] rfl (by simp)
    have h:Own w0 S R w (arr ⟨some ⟨n11,0⟩,1,1⟩ KS [s]^_):=h
    refine w_app (K:=KS) (s:=s2) (xs:=o.dr) h rfl hl2 fun t2 w _ h=>?_
    refine w_chk h rfl (w_new h fun n13 w h=>w_chk h rfl (w_chk h rfl (w_chkAll (b:=n1) h ?_)))
    have h:=h.blkArr n13 KI [f] rfl (by simp)
    have h:Own w0 S R w (arr ⟨some ⟨n13,0⟩,1,1⟩ KI [f]^_):=h
    refine w_app (K:=KI) (s:=s3) (xs:=o.ft) h rfl hl3 fun t3 w _ h=>?_
    exact fin h.fin
   ·refine w_new h fun n17 w h=>w_chk h rfl (w_chk h rfl (w_chkAll (b:=n1) h ?_))
    have h:=h.blkArr n11 KS [s] rfl (by simp)
    have h:Own w0 S R w (arr ⟨some ⟨n11,0⟩,1,1⟩ KS [s]^_):=h
    refine w_app (K:=KS) (s:=s2) (xs:=o.dr) h rfl hl2 fun t2 w _ h=>?_
    refine w_chk h rfl ?_
    have h:=h.blkArr n17 KI [f] rfl (by simp)
    have h:Own w0 S R w (arr ⟨some ⟨n17,0⟩,1,1⟩ KI [f]^_):=h
    refine w_app (K:=KI) (s:=s3) (xs:=o.ft) h rfl hl3 fun t3 w _ h=>?_
    exact fin h.fin
  ·refine w_new h fun n22 w h=>w_chk h rfl (w_chk h rfl (w_chkAll (b:=n1) h (w_new h fun n23 w h=>w_chk h rfl (w_chk h rfl ?_))))
   have h:=h.blkArr n23 KS [s] rfl (by simp)
   have h:Own w0 S R w (arr ⟨some ⟨n23,0⟩,1,1⟩ KS [s]^_):=h
   refine w_app (K:=KS) (s:=s2) (xs:=o.dr) h rfl hl2 fun t2 w _ h=>?_
   refine w_chk h rfl ?_
   have h:=h.blkArr n22 KI [f] rfl (by simp)
   have h:Own w0 S R w (arr ⟨some ⟨n22,0⟩,1,1⟩ KI [f]^_):=h
   refine w_app (K:=KI) (s:=s3) (xs:=o.ft) h rfl hl3 fun t3 w _ h=>?_
   exact fin h.fin
theorem went_r {k:Int} {v v':Sk} {now:Int} {g:Sg} (hv:IvS k v) (hv':IvS k v') (hw:Went v now g v'):0≤gF g∧gF g+gN g≤4611686018427387904:=by
 have b1:=hv'.ok.bf.nw
 have b2:=hv'.ok.bf.w
 have b3:=hv.ok.bf.u
 have b4:=hv.ok.bf.un
 cases hx:gA g with
 | false =>
  obtain ⟨n1,n2,_⟩:=hw.new hx
  have:SockA.bN v'.bf=SockA.bN v.bf+gN g:=by rw [n2]
  rw [n1];omega
 | true =>
  obtain ⟨_,n2,_⟩:=hw.old hx
  obtain ⟨z,hz,ez⟩:=lost_mem (l:=v.bd.1) (by rw [n2])
  have hzo:=hv.pc z hz
  rw [n2] at ez
  have e1:gF g=Board.pFrom z:=congrArg Prod.fst ez
  have e2:gF g+gN g=Board.pTo z:=congrArg Prod.snd ez
  have:=hzo.f
  have:=hzo.t
  omega
theorem cnt_set {α:Type} {f:α→Bool}:∀ {l:List α} {i:Nat} {p q:α},l[i]?=some p→f p=true→f q=false→(l.set i q).countP f+1=l.countP f
 | [],_,_,_,h,_,_=>by cases h
 | a :: l,0,p,q,h,hp,hq=>by
  cases h
  rw [List.set_cons_zero,List.countP_cons_of_neg (by rw [hq];simp),List.countP_cons_of_pos hp]
 | a :: l,i+1,p,q,h,hp,hq=>by
  have:=cnt_set (l:=l) (i:=i) (p:=p) (q:=q) (by simpa using h) hp hq
  rw [List.set_cons_succ,List.countP_cons,List.countP_cons];omega
theorem fresh_less {k:Int} {v v':Sk} {now:Int} {g:Sg} (hv:IvS k v) (hv':IvS k v') (hw:Went v now g v'):fresh v' < fresh v:=by
 have b1:=hv'.ok.bf.nw
 have hn:=hw.n
 have e0:fresh v'=(SockA.bW v'.bf - SockA.bN v'.bf).toNat+v'.bd.1.countP (fun p=>Board.pLo p):=rfl
 have e1:fresh v=(SockA.bW v.bf - SockA.bN v.bf).toNat+v.bd.1.countP (fun p=>Board.pLo p):=rfl
 rw [e0,e1]
 cases hx:gA g with
 | false =>
  obtain ⟨_,n2,_,_,n5⟩:=hw.new hx
  have f1:SockA.bN v'.bf=SockA.bN v.bf+gN g:=by rw [n2]
  have f2:SockA.bW v'.bf=SockA.bW v.bf:=by rw [n2]
  have f3:v'.bd.1.countP (fun p=>Board.pLo p)=v.bd.1.countP (fun p=>Board.pLo p):=by
   rw [n5];show (v.bd.1++[_]).countP _=_
   rw [List.countP_append,List.countP_cons_of_neg (by show ¬ (false=true);simp)];rfl
  rw [f3];omega
 | true =>
  obtain ⟨n1,n2,n3⟩:=hw.old hx
  obtain ⟨i,pp,hp,hlo,_,e2⟩:=SockQ.lost_at (l:=v.bd.1) (by rw [n2])
  have f3:v'.bd.1.countP (fun p=>Board.pLo p)+1=v.bd.1.countP (fun p=>Board.pLo p):=by
   rw [n3]
   show (Board.againF v.bd.1 _).countP _+1=_
   rw [e2]
   exact cnt_set hp hlo rfl
  rw [n1];omega
theorem fresh_done (v:Sk) (n:Int):fresh (doneS v n).2=fresh v:=by unfold doneS;split<;>rfl
theorem ivB_emit {k:Int} {v:Sk} (h:IvB k v) {now:Int} (hn:U now):IvB k (emitS v now).2 :=
 { i:=h.i.emit hn,kr:=h.kr,g:=(SockV.emit_g v now).1.trans h.g,b:=by rw [(SockV.emit_g v now).2];exact h.b }
theorem ivB_done {k:Int} {v:Sk} (h:IvB k v) (n:Int):IvB k (doneS v n).2 :=
 { i:=h.i.done n,kr:=h.kr,g:=by rw [show (doneS v n).2.sp=v.sp by unfold doneS;split<;>rfl];exact h.g,b:=by rw [show (doneS v n).2.md=v.md by unfold doneS;split<;>rfl];exact h.b }
structure OkPm (k i:Int) (s:Pm):Prop where
 v:IvB k s.v
 id:s.v.id=i
 q:OkQ s.q
theorem emit_id (v:Sk) (now:Int):(emitS v now).2.id=v.id:=by
 unfold emitS
 split
 ·exact (SockQ.may_same v).id
 ·show (SockM.goS v now).2.id=v.id
  unfold SockM.goS;split<;>rfl
theorem done_id (v:Sk) (n:Int):(doneS v n).2.id=v.id:=by unfold doneS;split<;>rfl
theorem went_of {k:Int} {v:Sk} (h:IvB k v) {now:Int} (hn:U now) (he:(emitS v now).1.2=0):Went v now (emitS v now).1.1 (emitS v now).2:=emit_went h.i hn he
theorem went_ok {k:Int} {v:Sk} (h:IvB k v) {now:Int} (hn:U now) (he:(emitS v now).1.2=0):U (sFr (emitS v now).1.1)∧U (sSt (emitS v now).1.1):=by
 have hw:=went_of h hn he
 have hr:=went_r h.i (h.i.emit hn) hw
 have h1:=hw.n
 refine ⟨⟨hr.1,by show gF _ < _;omega⟩,?_⟩
 show U (gS _)
 rw [hw.st];exact SockO.U_max h.i.ok.nx hn
theorem enter_ok {k i now:Int} {s:Pm} (h:OkPm k i s) (hn:U now) (he:(emitS s.v now).1.2=0):OkPm k i (enter i now s).1∧fresh (enter i now s).1.v < fresh s.v:=by
 have hs:=went_ok h.v hn he
 have hf:=fresh_less h.v.i (h.v.i.emit hn) (went_of h.v hn he)
 unfold enter
 dsimp only
 split
 ·exact ⟨⟨ivB_emit h.v hn,(emit_id _ _).trans h.id,h.q.enq hs hn⟩,hf⟩
 ·exact ⟨⟨ivB_done (ivB_emit h.v hn) _,(done_id _ _).trans ((emit_id _ _).trans h.id),h.q.enq hs hn⟩,by rw [fresh_done];exact hf⟩
theorem pumpN_ok {k i now:Int} (hn:U now):∀ (n:Nat) (s:Pm),OkPm k i s→OkPm k i (pumpN i now n s)
 | 0,_,h=>h
 | n+1,s,h=>by
  unfold pumpN
  by_cases he:(emitS s.v now).1.2=0
  ·rw [if_neg (fun c=>c he)]
   have h2:=(enter_ok h hn he).1
   split
   ·exact pumpN_ok hn n _ h2
   ·exact h2
  ·rw [if_pos he]
   exact ⟨ivB_emit h.v hn,(emit_id _ _).trans h.id,h.q⟩
theorem pump_tri (b a:Nat) (k:Int) (v:Mc) (hv:OkMc k v) (i:Nat) (x:Sk) (hx:v.so i=some x) (o:Ou) (hl:o.dr.length≤999∧o.ft.length≤999):Tri Tryz.prog N_egress_Machine_pump [.lf (.ptr (some ⟨b,0⟩)),.lf (.int .i64 (i:Int)),.lf (.ptr (some ⟨a,0⟩))] [] (mach b v^outp a o) (fun _=>mach b (pumpM v i x o).2^outp a (pumpM v i x o).1) :=
 tri_0 (call_egress_Machine_pump (some ⟨b,0⟩) (i:Int) (some ⟨a,0⟩)) fun w0 S R h=>by
  unfold W_egress_Machine_pump
  obtain ⟨hxi,hid,hi⟩:=hv.so i x hx
  have hn:=hv.un
  obtain ⟨p,ck,q,l,h⟩:=(h.le (star_emp _)).mach b
  obtain ⟨ap,hp,h⟩:=h.outK p v.so hi hx
  have s0:OkPm k i ⟨x,v.q,v.l,o⟩:=⟨hxi,hid,hv.q⟩
  have eit:((i:Nat):Int).toNat=i:=Int.toNat_natCast i
  have hat:Ks.un [.ptr] (((mL v.c ck p q l).drop (0+10+((i:Nat):Int).toNat * 1)).take 1)=some (some ⟨ap,0⟩):=by rw [eit,mL_at v.c ck p q l i hi,hp]
  refine w_deref ⟨by omega,w_ld h hat ?_⟩
  have fin:∀ {w:World} (s:Pm),s=pumpF i v.now ⟨x,v.q,v.l,o⟩→Own w0 S R w (blk b (mL v.c ck p q l)^blk ck [.int .u64 v.now]^que q s.q^led l s.l^sck ap s.v^ButK p v.so i^outp a s.o^emp)→Own w0 S R w (mach b (pumpM v i x o).2^outp a (pumpM v i x o).1):=by
   intro w s hs h
   have h:=h.inK p v.so hi p (upL v.so i (some s.v)) ap s.v (fun _ _=>rfl) (fun j hj=>upL_ne v.so _ hj) hp (upL_same v.so i _)
   have h:=h.mkMach b p ck q l { v with so:=upL v.so i (some s.v),q:=s.q,l:=s.l }
   rw [show pumpM v i x o=(s.o,{ v with so:=upL v.so i (some s.v),q:=s.q,l:=s.l }) by unfold pumpM;rw [← hs]]
   exact h.fin
  have h:Own w0 S R w0 (blk b (mL v.c ck p q l)^blk ck [.int .u64 v.now]^que q v.q^led l v.l^sck ap x^ButK p v.so i^outp a o^emp):=h.fin
  refine w_loopE (fun (_:Unit) (s:Pm)=>blk b (mL v.c ck p q l)^blk ck [.int .u64 v.now]^que q s.q^led l s.l^sck ap s.v^ButK p v.so i^outp a s.o^emp) (fun _ s=>OkPm k i s∧s.o=o∧∃ n,fresh s.v < n∧pumpN i v.now n s=pumpF i v.now ⟨x,v.q,v.l,o⟩) (fun _ s=>fresh s.v) ⟨x,v.q,v.l,o⟩ h ⟨s0,rfl,_,Nat.lt_succ_self _,rfl⟩ ?_
  rintro K (y:Unit) s w ⟨hs,hso,n,hfn,hN⟩ h next
  cases n with
  | zero=>omega
  | succ n =>
  unfold pumpN at hN
  refine w_call (mnowO_tri b v.c p ck q l v.now) h fun r w h=>?_
  obtain ⟨hr,h⟩:=h.purP;rw [hr]
  refine w_call (SockG.emit_tri ap s.v hs.v.i.ok (pcs_lost hs.v.i.pc) v.now hn) h fun r w h=>?_
  obtain ⟨hr,h⟩:=h.purP;rw [hr]
  refine w_new h fun n7 w h=>w_setAll h (by rfl) fun w h=>w_ite (fun ce=>?_) fun ce=>?_
  ·have ce:(emitS s.v v.now).1.2≠0:=by simpa using ce
   rw [if_pos ce] at hN
   exact fin { s with v:=(emitS s.v v.now).2 } hN h.fin
  ·have ce:(emitS s.v v.now).1.2=0:=by simpa using ce
   rw [if_neg (fun c=>c ce)] at hN
   obtain ⟨hok,hless⟩:=enter_ok hs hn ce
   have hw:=went_of hs.v hn ce
   have hgs:=went_ok hs.v hn ce
   have hgn:=hw.n
   obtain ⟨g,hg⟩:∃ g,g=(emitS s.v v.now).1.1:=⟨_,rfl⟩
   obtain ⟨v',hv'⟩:∃ v',v'=(emitS s.v v.now).2:=⟨_,rfl⟩
   have hiv:=ivB_emit hs.v hn
   have een:enter i v.now s=if (enqF s.q g v.now).1.1=0 then (⟨v',(enqF s.q g v.now).2,(noteL s.l i 0).2,s.o⟩,0)
    else (⟨(doneS v' g.2.2.1).2,(enqF s.q g v.now).2,(dropF (noteL s.l i 0).2 s.o g (enqF s.q g v.now).1.1).2,(dropF (noteL s.l i 0).2 s.o g (enqF s.q g v.now).1.1).1⟩,1):=by
    rw [hg,hv'];rfl
   rw [← hg] at hw hgs hgn
   rw [← hv'] at hiv hw
   rw [← hg,← hv'] at h
   refine w_deref (w_ld (x:=some ⟨l,0⟩) h rfl (w_call (note_tri l s.l i 0) h fun r w h=>?_))
   obtain ⟨_,h⟩:=h.purP
   refine w_drw h fun w h=>w_ldAll (b:=n7) (x:=g) h rfl (w_deref (w_ld (x:=some ⟨q,0⟩) h rfl (w_call (mnowO_tri b v.c p ck q l v.now) h fun r w h=>?_)))
   obtain ⟨hr,h⟩:=h.purP;rw [hr]
   refine w_chk h rfl (w_chkAll (b:=n7) h (w_call (FqD.enq_tri q s.q hs.q g v.now hgs hn) h fun r w h=>?_))
   obtain ⟨hr,h⟩:=h.purP;rw [hr]
   refine w_ite (fun cf=>?_) fun cf=>?_
   ·have cf:(enqF s.q g v.now).1.1=0:=by simpa using cf
    rw [if_pos cf] at een
    rw [een] at hN hok hless
    rw [if_pos rfl] at hN
    have hless:fresh v' < fresh s.v:=hless
    exact next () ⟨v',(enqF s.q g v.now).2,(noteL s.l i 0).2,s.o⟩ w ⟨hok,hso,n,by show fresh v' < n;omega,hN⟩ h.fin hless
   ·have cf:¬ (enqF s.q g v.now).1.1=0:=by simpa using cf
    rw [if_neg cf] at een
    rw [een] at hN hok hless
    rw [if_neg (by show ¬ (1:Int)=0;decide)] at hN
    refine w_ldAll (b:=n7) (x:=g) h rfl ?_
    refine w_call (drop_tri b a v.c p ck q l (noteL s.l i 0).2 s.o g (enqF s.q g v.now).1.1 (by rw [hso];omega)) h fun _ w h=>?_
    refine w_ld (x:=g.2.2.1) h rfl (w_call (SockC.done_tri ap v' hiv.i.ok.out g.2.2.1 (by show gN g < _;omega)) h fun r w h=>?_)
    obtain ⟨_,h⟩:=h.purP
    exact fin _ hN h.fin
end EgD

namespace EgE
open Arith ArithC TreeF FqM FqC SockC EgM EgA EgB EgC EgD
open SockM (Sk emitS doneS writeS loseS newS skFl skTso mayS)
open SockO (IvS)
open SockV (IvB)
theorem new_tri (c:Cf):Tri Tryz.prog N_egress_New [.agg (Ks.mk KC c)] [.lf .ptr,.lf (.int .i64)] emp (fun r=>ex fun b:Nat=>pur (r=if may c then (some ⟨b,0⟩,0) else (none,13)) (if may c then mach b (newM c) else emp)) :=
 tri_0 (call_egress_New c) fun w0 S R h=>by
  unfold W_egress_New
  refine w_new (h.le (star_emp _)) fun n1 w h=>w_ldAll (b:=n1) (x:=c) h rfl (w_call (FqE.new_tri c) h fun r w h=>?_)
  obtain ⟨q,h⟩:=h.exP
  obtain ⟨hr,h⟩:=h.purP
  by_cases hm:may c=true
  ·rw [if_pos hm] at hr h
   rw [hr]
   refine w_ite (fun cc=>(by cases cc)) fun _=>?_
   refine w_drw h fun w h=>w_ldAll (b:=n1) (x:=c) h rfl (w_call cnew_tri (h.le ((star_emp _).trans (star_comm _ _))) fun r w h=>?_)
   obtain ⟨ck,h⟩:=h.exP
   obtain ⟨hr,h⟩:=h.purP;rw [hr]
   refine w_chkAll (b:=n1) h (w_call lnew_tri (h.le ((star_emp _).trans (star_comm _ _))) fun r w h=>?_)
   obtain ⟨l,h⟩:=h.exP
   obtain ⟨hr,h⟩:=h.purP;rw [hr]
   refine w_chkAll (b:=n1) h (w_new h fun n7 w h=>?_)
   have h:Own w0 S R w (blk n7 (mL c ck (fun _=>none) q l)^_):=h
   have e:AllK (fun _=>none) (fun _=>none)=bigS (fun _=>pur ((none:Option Pt)=none) emp) 8:=rfl
   have hall:∀ n,Le emp (bigS (fun _=>pur ((none:Option Pt)=none) emp) n):=fun n=>by
    induction n with
    | zero=>exact Le.rfl
    | succ n ih=>exact (star_emp emp).trans (star_mono (fun _ _ _ h=>⟨rfl,h⟩) ih)
   have h:Own w0 S R w (AllK (fun _=>none) (fun _=>none)^_):=(h.le ((star_emp _).trans (star_comm _ _))).le (star_mono (by rw [e];exact hall 8) Le.rfl)
   have h:=h.mkMach n7 (fun _=>none) ck q l (newM c)
   refine Own.retE n7 (Own.retP (by rw [if_pos hm]) ?_)
   rw [if_pos hm]
   exact h.keep
  ·rw [if_neg hm] at hr h
   rw [hr]
   refine w_ite (fun _=>?_) fun cc=>(by cases cc)
   refine Own.retE 0 (Own.retP (by rw [if_neg hm]) ?_)
   rw [if_neg hm]
   exact h.emp'
theorem set_tri (b:Nat) (v:Mc) (c:Cf):Tri Tryz.prog N_egress_Machine_set [.lf (.ptr (some ⟨b,0⟩)),.agg (Ks.mk KC c)] [.lf (.int .i64)] (mach b v) (fun r=>pur (r=(setM v c).1) (mach b (setM v c).2)) :=
 tri_0 (call_egress_Machine_set (some ⟨b,0⟩) c) fun w0 S R h=>by
  unfold W_egress_Machine_set
  refine w_new (h.le (star_emp _)) fun n1 w h=>?_
  obtain ⟨p,ck,q,l,h⟩:=h.mach b
  refine w_drw h fun w h=>w_ldAll (b:=n1) (x:=c) h rfl (w_deref (w_ld (x:=some ⟨q,0⟩) h rfl (w_call (FqE.set_tri q v.q c) h fun r w h=>?_)))
  obtain ⟨hr,h⟩:=h.purP;rw [hr]
  refine w_ite (fun cc=>?_) fun cc=>?_
  ·have cc:(setF v.q c).1=0:=by simpa using cc
   refine w_ldAll (b:=n1) (x:=c) h rfl (w_deref (w_setTo h b (mL c ck p q l) rfl rfl rfl fun w h=>?_))
   rw [show setM v c=(0,{ v with q:=(setF v.q c).2,c:=c }) by unfold setM;rw [if_pos cc]]
   exact Own.retP cc (h.mkMach b p ck q l { v with q:=(setF v.q c).2,c:=c }).fin
  ·have cc:¬ (setF v.q c).1=0:=by simpa using cc
   rw [show setM v c=((setF v.q c).1,{ v with q:=(setF v.q c).2 }) by unfold setM;rw [if_neg cc]]
   exact Own.retP rfl (h.mkMach b p ck q l { v with q:=(setF v.q c).2 }).fin
theorem drops_app (l:Nat→Ct) (o:Ou) (a:List Sg) (s:Sg):dropsF l o (a++[s])=dropF (dropsF l o a).2 (dropsF l o a).1 s 5:=by
 induction a generalizing l o with
 | nil=>rfl
 | cons x a ih=>exact ih _ _
theorem drops_len (l:Nat→Ct) (o:Ou) (a:List Sg):(dropsF l o a).1.dr.length=o.dr.length+a.length∧(dropsF l o a).1.ft.length=o.ft.length+a.length:=by
 induction a generalizing l o with
 | nil=>exact ⟨rfl,rfl⟩
 | cons x a ih =>
  obtain ⟨h1,h2⟩:=ih (dropF l o x 5).2 (dropF l o x 5).1
  have e1:(dropF l o x 5).1.dr.length=o.dr.length+1:=by show (o.dr++[x]).length=_;simp
  have e2:(dropF l o x 5).1.ft.length=o.ft.length+1:=by show (o.ft++[5]).length=_;simp
  rw [List.length_cons]
  show (dropsF (dropF l o x 5).2 (dropF l o x 5).1 a).1.dr.length=_∧(dropsF (dropF l o x 5).2 (dropF l o x 5).1 a).1.ft.length=_
  omega
theorem close_len {v:Qm} (hv:OkQ v) (i:Int):(closeF v i).1.length≤512:=by
 unfold closeF
 split
 ·show ([]:List Sg).length≤512;decide
 ·split
  ·show ([]:List Sg).length≤512;decide
  ·rename_i f hf;exact (hv.len hf).2
theorem shut_tri (b a:Nat) (k:Int) (v:Mc) (hv:OkMc k v) (i:Nat) (hi:i < 8) (o:Ou) (hl:o.dr.length≤400∧o.ft.length≤400):Tri Tryz.prog N_egress_Machine_shut [.lf (.ptr (some ⟨b,0⟩)),.lf (.int .i64 (i:Int)),.lf (.ptr (some ⟨a,0⟩))] [] (mach b v^outp a o) (fun _=>mach b (shutM v i o).2^outp a (shutM v i o).1) :=
 tri_0 (call_egress_Machine_shut (some ⟨b,0⟩) (i:Int) (some ⟨a,0⟩)) fun w0 S R h=>by
  unfold W_egress_Machine_shut
  obtain ⟨p,ck,q,l,h⟩:=(h.le (star_emp _)).mach b
  have eit:((i:Nat):Int).toNat=i:=Int.toNat_natCast i
  have h:Own w0 S R w0 (ButK p v.so i^blk b (mL v.c ck p q l)^blk ck [.int .u64 v.now]^que q v.q^led l v.l^outp a o^emp):=by
   cases hs:v.so i with
   | none=>exact (h.noK p v.so hi hs).2.fin
   | some x=>obtain ⟨ap,_,h⟩:=h.outK p v.so hi hs;exact h.drop.fin
  refine w_deref ⟨by omega,?_⟩
  rw [eit]
  refine w_setTo h b (mL v.c ck (upP p i none) q l) rfl (by rcases lt8 hi with rfl | rfl | rfl | rfl | rfl | rfl | rfl | rfl<;>rfl) (mL_up v.c ck p q l i hi none) fun w h=>?_
  have h:=h.inKN p v.so hi (upP p i none) (upL v.so i none) (fun j hj=>upP_ne p none hj) (fun j hj=>upL_ne v.so none hj) (upP_same p i none) (upL_same v.so i none)
  refine w_deref (w_ld (x:=some ⟨q,0⟩) h rfl (w_call (FqE.close_tri q v.q hv.q (i:Int)) h fun r w h=>?_))
  obtain ⟨cl,hcl⟩:∃ cl,cl=(closeF v.q (i:Int)).1:=⟨_,rfl⟩
  have hcn:cl.length≤512:=by rw [hcl];exact close_len hv.q i
  have hrl:=(h.rd (s:=r)).2
  rw [← hcl] at hrl h
  have h:Own w0 S R w (led l (dropsF v.l o (cl.take (0:Int).toNat)).2^outp a (dropsF v.l o (cl.take (0:Int).toNat)).1^arr r KS cl^blk b (mL v.c ck (upP p i none) q l)^blk ck [.int .u64 v.now]^que q (closeF v.q (i:Int)).2^AllK (upP p i none) (upL v.so i none)^emp):=h.fin (A:=led l v.l^outp a o^arr r KS cl^blk b (mL v.c ck (upP p i none) q l)^blk ck [.int .u64 v.now]^que q (closeF v.q (i:Int)).2^AllK (upP p i none) (upL v.so i none)^emp)
  refine w_loopE (fun (y:Int) (_:Unit)=>led l (dropsF v.l o (cl.take y.toNat)).2^outp a (dropsF v.l o (cl.take y.toNat)).1^arr r KS cl^blk b (mL v.c ck (upP p i none) q l)^blk ck [.int .u64 v.now]^que q (closeF v.q (i:Int)).2^AllK (upP p i none) (upL v.so i none)^emp) (fun (y:Int) _=>0≤y∧y≤cl.length) (fun (y:Int) _=>(cl.length - y.toNat)) () h ⟨by decide,by omega⟩ ?_
  rintro K (y:Int) _ w ⟨h0,h1⟩ h next
  refine w_ite (fun c=>?_) fun c=>?_
  ·have c:y < ((r.len:Nat):Int):=of_decide_eq_true c
   have hy:y.toNat < cl.length:=by omega
   have hwi:IntKind.i64.wrap (y+1)=y+1:=wi (by omega) (by omega)
   have hin:(y+1).toNat=y.toNat+1:=by omega
   obtain ⟨s,hs⟩:∃ s,cl[y.toNat]?=some s:=⟨_,List.getElem?_eq_getElem hy⟩
   obtain ⟨d1,d2⟩:=drops_len v.l o (cl.take y.toNat)
   have dt:(cl.take y.toNat).length≤512:=by rw [List.length_take];omega
   refine w_idx (s:=r) h h0 hy (w_ldE h r y.toNat hs rfl (w_new h fun n9 w h=>w_setAll h (by rfl) fun w h=>w_ldAll (b:=n9) (x:=s) h rfl ?_))
   refine w_call (drop_tri b a v.c (upP p i none) ck q l (dropsF v.l o (cl.take y.toNat)).2 (dropsF v.l o (cl.take y.toNat)).1 s 5 (by omega)) h fun _ w h=>?_
   have e:dropsF v.l o (cl.take (y+1).toNat)=dropF (dropsF v.l o (cl.take y.toNat)).2 (dropsF v.l o (cl.take y.toNat)).1 s 5:=by
    rw [hin,List.take_add_one,hs];exact drops_app _ _ _ _
   rw [← e] at h
   rw [hwi]
   exact next (y+1) () w ⟨by omega,by omega⟩ h.fin (by show cl.length - (y+1).toNat < cl.length - y.toNat;omega)
  ·have c:¬ y < ((r.len:Nat):Int):=of_decide_eq_false c
   rw [List.take_of_length_le (by omega)] at h
   have h:=h.mkMach b (upP p i none) ck q l { v with so:=upL v.so i none,q:=(closeF v.q (i:Int)).2,l:=(dropsF v.l o cl).2 }
   rw [show shutM v i o=((dropsF v.l o cl).1,{ v with so:=upL v.so i none,q:=(closeF v.q (i:Int)).2,l:=(dropsF v.l o cl).2 }) by unfold shutM;rw [← hcl]]
   exact h.fin
abbrev KR:Ks:=[.int .u64,.int .u64]
structure OkD (d:Dd):Prop where
 l:dL d < 9223372036854775808
 u:U (dU d)
 a:U (dA d)
 c:0≤cH (dC d)∧U (cR (dC d))
theorem told_tri (ap:Nat) (k:Int) (x:Sk) (hx:IvB k x) (now:Int) (hn:U now) (d:Dd) (hd:OkD d) (xs:List (Ks.T KR)) (hxl:xs.length≤4294967296):Tri Tryz.prog N_egress_told [.lf (.ptr (some ⟨ap,0⟩)),.agg (Ks.mk KD d),.lf (.int .u64 now)] [.lf (.int .i64)] (sck ap x^rarr (dR d) KR xs) (fun r=>pur (r=(toldF x now d xs).1) (sck ap (toldF x now d xs).2)) :=
 tri_0 (call_egress_told (some ⟨ap,0⟩) d now) fun w0 S R h=>by
  unfold W_egress_told
  refine w_new (h.le (star_emp _)) fun n1 w h=>w_ld (x:=dK d) h rfl (w_ite (fun c=>?_) fun c=>?_)
  ·have c:dK d=2:=by simpa using c
   refine w_ld (x:=dL d) h rfl (w_call (write_tri ap x hx.i.ok.bf (dL d) hd.l) h fun r w h=>?_)
   obtain ⟨hr,h⟩:=h.purP;rw [hr]
   rw [show toldF x now d xs=writeS x (dL d) by unfold toldF;rw [if_pos c]]
   exact Own.retP rfl h.fin
  have c:¬ dK d=2:=by simpa using c
  refine w_ite (fun c3=>?_) fun c3=>?_
  ·have c3:dK d=3:=by simpa using c3
   refine w_ld (x:=dU d) h rfl (w_ld (x:=dR d) h rfl ?_)
   refine w_callL (A:=sck ap x) (Q:=rarr (dR d) KR xs) (SockN.sack_tri ap x hx.i.ok hx.i.ps now (dU d) hn (dR d) xs hxl) h fun r w h=>?_
   obtain ⟨hr,h⟩:=h.purP;rw [hr]
   rw [show toldF x now d xs=SockL.ackS x now (dU d) xs by unfold toldF;rw [if_neg c,if_pos c3]]
   exact Own.retP rfl h.fin
  have c3:¬ dK d=3:=by simpa using c3
  refine w_ite (fun c4=>?_) fun c4=>?_
  ·have c4:dK d=4:=by simpa using c4
   refine w_call (SockJ.slose_tri ap x hx.i.ok now hn) h fun r w h=>?_
   obtain ⟨hr,h⟩:=h.purP;rw [hr]
   rw [show toldF x now d xs=(0,loseS x now) by unfold toldF;rw [if_neg c,if_neg c3,if_pos c4]]
   exact Own.retP rfl h.fin
  ·have c4:¬ dK d=4:=by simpa using c4
   refine w_ld (x:=dL d) h rfl (w_call (SockC.done_tri ap x hx.i.ok.out (dL d) hd.l) h fun r w h=>?_)
   obtain ⟨hr,h⟩:=h.purP;rw [hr]
   rw [show toldF x now d xs=doneS x (dL d) by unfold toldF;rw [if_neg c,if_neg c3,if_neg c4]]
   exact Own.retP rfl h.fin
end EgE

namespace EgF
open Arith ArithC TreeF FqM FqC SockC EgM EgA EgB EgC EgD EgE
open SockM (Sk emitS doneS writeS loseS newS skFl skTso mayS)
open SockO (IvS)
open SockV (IvB)
theorem upL_upL {α:Type} (l:Nat→α) (i:Nat) (x y:α):upL (upL l i x) i y=upL l i y:=funext fun j=>by unfold upL;split<;>rfl
theorem ivB_le {k j:Int} {v:Sk} (h:IvB k v) (hj:k≤j) (hj2:j≤1000000):IvB j v :=
 { i:=h.i.le hj,kr:=by have:=h.kr;omega,g:=h.g,b:=SockV.Bd_le h.b (by omega) }
theorem OkMc_le {k j:Int} {v:Mc} (h:OkMc k v) (hj:k≤j) (hj2:j≤1000000):OkMc j v :=
 { c:=h.c,now:=h.now,q:=h.q,so:=fun i x hx=>⟨ivB_le (h.so i x hx).1 hj hj2,(h.so i x hx).2⟩,kr:=by have:=h.kr;omega }
theorem told_ok {k:Int} {x:Sk} (hx:IvB k x) (hk:k < 1000000) {now:Int} (hn:U now) (d:Dd) (xs:List (Int × Int)):IvB (k+1) (toldF x now d xs).2∧(toldF x now d xs).2.id=x.id:=by
 unfold toldF
 split
 ·exact ⟨hx.write hk _,rfl⟩
 ·split
  ·exact ⟨hx.ack hk hn _ _,by unfold SockL.ackS;split<;>rfl⟩
  ·split
   ·exact ⟨hx.lose hk hn,rfl⟩
   ·exact ⟨hx.done hk _,by unfold doneS;split<;>rfl⟩
theorem upS_ok {k:Int} {v:Mc} (hv:OkMc k v) {i:Nat} (hi:i < 8) {x:Sk} (hx:IvB k x) (hid:x.id=(i:Int)):OkMc k { v with so:=upL v.so i (some x) }:=by
 have hso:∀ j y,upL v.so i (some x) j=some y→IvB k y∧y.id=(j:Int)∧j < 8:=fun j y hy=>by
  by_cases e:j=i
  ·subst e
   rw [upL_same] at hy
   cases hy;exact ⟨hx,hid,hi⟩
  ·rw [upL_ne _ _ e] at hy;exact hv.so j y hy
 exact { hv with so:=hso }
theorem upN_ok {k:Int} {v:Mc} (hv:OkMc k v) (i:Nat):OkMc k { v with so:=upL v.so i none }:=by
 have hso:∀ j y,upL v.so i none j=some y→IvB k y∧y.id=(j:Int)∧j < 8:=fun j y hy=>by
  by_cases e:j=i
  ·subst e
   rw [upL_same] at hy;cases hy
  ·rw [upL_ne _ _ e] at hy;exact hv.so j y hy
 exact { hv with so:=hso }
theorem one_tri (b a:Nat) (k:Int) (v:Mc) (hv:OkMc k v) (hk:k < 1000000) (d:Dd) (hd:OkD d) (xs:List (Ks.T KR)) (hxl:xs.length≤4294967296) (o:Ou) (hl:o.dr.length≤400∧o.ft.length≤400) :
  Tri Tryz.prog N_egress_Machine_one [.lf (.ptr (some ⟨b,0⟩)),.agg (Ks.mk KD d),.lf (.ptr (some ⟨a,0⟩))] [.lf (.int .i64)] ((mach b v^outp a o)^rarr (dR d) KR xs) (fun r=>pur (r=(oneM v d xs o).1) (mach b (oneM v d xs o).2.2^outp a (oneM v d xs o).2.1)) :=
 tri_0 (call_egress_Machine_one (some ⟨b,0⟩) d (some ⟨a,0⟩)) fun w0 S R h=>by
  unfold W_egress_Machine_one
  refine w_new (h.le (star_emp _)) fun n1 w h=>w_ld (x:=dS d) h rfl (w_call (is_tri (dS d)) (h.le ((star_emp _).trans (star_comm _ _))) fun r w h=>?_)
  obtain ⟨hr,h⟩:=h.purP;rw [hr]
  have h:Own w0 S R w (blk n1 (Ks.mk KD d)^mach b v^outp a o^rarr (dR d) KR xs^emp):=h.fin
  refine w_ite (fun c=>?_) fun c=>?_
  ·have c:¬ (0≤dS d∧dS d < 8):=fun hh=>by rw [decide_eq_true hh] at c;cases c
   rw [show oneM v d xs o=(8,o,v) by unfold oneM;rw [if_pos c]]
   exact Own.retP rfl h.fin
  have c:0≤dS d∧dS d < 8:=by
   by_cases hh:0≤dS d∧dS d < 8
   ·exact hh
   ·rw [decide_eq_false hh] at c;cases c
  obtain ⟨i,hi⟩:∃ i:Nat,dS d=(i:Int):=⟨(dS d).toNat,by omega⟩
  have hi8:i < 8:=by omega
  have eit:((i:Nat):Int).toNat=i:=Int.toNat_natCast i
  have hone:oneM v d xs o=match v.so i with
    | none=>if dK d=1 then (0,o,{ v with so:=upL v.so i (some (newS (i:Int) (cMss v.c) (cCap v.c))) }) else (10,o,v)
    | some x=>if dK d=1 then (9,o,v) else if dK d=9 then (0,(shutM v i o).1,(shutM v i o).2)
     else if (toldF x v.now d xs).1=0 then (0,(pumpM v i (toldF x v.now d xs).2 o).1,(pumpM v i (toldF x v.now d xs).2 o).2)
     else ((toldF x v.now d xs).1,o,{ v with so:=upL v.so i (some (toldF x v.now d xs).2) }):=by
   unfold oneM
   first
    | (rw [if_neg (fun hh=>hh c),hi,eit];cases v.so i<;>rfl)
    | rw [if_neg (fun hh=>hh c),hi,eit]
  obtain ⟨p,ck,q,l,h⟩:=h.mach b
  have hsn:=isNK h p v.so hi8
  have hat:Ks.un [.ptr] (((mL v.c ck p q l).drop (0+10+(dS d).toNat * 1)).take 1)=some (p i):=by rw [hi,eit,mL_at v.c ck p q l i hi8]
  refine w_drw h fun w h=>w_ld (x:=dS d) h rfl (w_deref ⟨c,w_ld h hat (w_ld (x:=dK d) h rfl ?_)⟩)
  cases hs:v.so i with
  | none =>
   rw [hs] at hsn hone
   have hpn:p i=none:=by simpa using hsn
   rw [hpn]
   refine w_ite (fun cc=>(by simp at cc)) fun _=>w_ld (x:=dK d) h rfl (w_ite (fun c1=>?_) fun c1=>?_)
   ·have c1:dK d=1:=by simpa using c1
    dsimp only at hone
    rw [if_pos c1] at hone
    rw [hone]
    refine w_drw h fun w h=>w_ld (x:=dS d) h rfl (w_ld (x:=dS d) h rfl (w_deref (w_deref (w_ld (x:=v.c) h rfl ?_))))
    rw [hi]
    refine w_call (SockK.snew_tri (i:Int) v.c) (h.le ((star_emp _).trans (star_comm _ _))) fun r w h=>?_
    obtain ⟨ap,h⟩:=h.exP
    obtain ⟨hr,h⟩:=h.purP;rw [hr]
    have h:Own w0 S R w (sck ap (newS (i:Int) (cMss v.c) (cCap v.c))^blk n1 (Ks.mk KD d)^(blk b (mL v.c ck p q l)^blk ck [.int .u64 v.now]^que q v.q^led l v.l^AllK p v.so)^outp a o^emp):=h.fin
    refine w_chk h (by show [Lf.int IntKind.i64 (dS d)]=_;rw [hi];rfl) ⟨by omega,?_⟩
    rw [eit]
    obtain ⟨_,h⟩:=h.noK p v.so hi8 hs
    refine w_setTo h b (mL v.c ck (upP p i (some ⟨ap,0⟩)) q l) rfl (by rcases lt8 hi8 with rfl | rfl | rfl | rfl | rfl | rfl | rfl | rfl<;>rfl) (mL_up v.c ck p q l i hi8 (some ⟨ap,0⟩)) fun w h=>?_
    have h:=h.inK p v.so hi8 (upP p i (some ⟨ap,0⟩)) (upL v.so i (some (newS (i:Int) (cMss v.c) (cCap v.c)))) ap (newS (i:Int) (cMss v.c) (cCap v.c)) (fun j hj=>upP_ne p _ hj) (fun j hj=>upL_ne v.so _ hj) (upP_same p i _) (upL_same v.so i _)
    have h:=h.mkMach b (upP p i (some ⟨ap,0⟩)) ck q l { v with so:=upL v.so i (some (newS (i:Int) (cMss v.c) (cCap v.c))) }
    exact Own.retP rfl h.fin
   ·have c1:¬ dK d=1:=by simpa using c1
    dsimp only at hone
    rw [if_neg c1] at hone
    rw [hone]
    refine w_ite (fun _=>?_) fun cc=>(by simp at cc)
    have h:=h.mkMach b p ck q l v
    exact Own.retP rfl h.fin
  | some x =>
   obtain ⟨hx,hid,_⟩:=hv.so i x hs
   rw [hs] at hsn hone
   obtain ⟨ap,hp,h⟩:=h.outK p v.so hi8 hs
   rw [hp]
   refine w_ite (fun c1=>?_) fun c1=>?_
   ·have c1:dK d=1:=by simpa using c1
    dsimp only at hone
    rw [if_pos c1] at hone
    rw [hone]
    have h:=h.inK p v.so hi8 p v.so ap x (fun _ _=>rfl) (fun _ _=>rfl) hp hs
    have h:=h.mkMach b p ck q l v
    exact Own.retP rfl h.fin
   have c1:¬ dK d=1:=by simpa using c1
   dsimp only at hone
   rw [if_neg c1] at hone
   refine w_ld (x:=dK d) h rfl (w_ite (fun cc=>(by simp at cc;exact absurd cc c1)) fun _=>w_ite (fun cc=>(by simp at cc)) fun _=>w_ld (x:=dK d) h rfl (w_ite (fun c9=>?_) fun c9=>?_))
   ·have c9:dK d=9:=by simpa using c9
    rw [if_pos c9] at hone
    rw [hone]
    have h:=h.inK p v.so hi8 p v.so ap x (fun _ _=>rfl) (fun _ _=>rfl) hp hs
    have h:=h.mkMach b p ck q l v
    refine w_ld (x:=dS d) h rfl ?_
    rw [hi]
    refine w_call (shut_tri b a k v hv i hi8 o hl) h fun _ w h=>?_
    exact Own.retP rfl h.fin
   have c9:¬ dK d=9:=by simpa using c9
   rw [if_neg c9] at hone
   refine w_drw h fun w h=>w_ldAll (b:=n1) (x:=d) h rfl (w_call (mnowO_tri b v.c p ck q l v.now) h fun r w h=>?_)
   obtain ⟨hr,h⟩:=h.purP;rw [hr]
   refine w_chkAll (b:=n1) h ?_
   refine w_callL (A:=sck ap x) (Q:=rarr (dR d) KR xs) (told_tri ap k x hx v.now hv.un d hd xs hxl) h fun r w h=>?_
   obtain ⟨hr,h⟩:=h.purP;rw [hr]
   obtain ⟨hx2,hid2⟩:=told_ok hx hk hv.un d xs
   have h:=h.inK p v.so hi8 p (upL v.so i (some (toldF x v.now d xs).2)) ap (toldF x v.now d xs).2 (fun _ _=>rfl) (fun j hj=>upL_ne v.so _ hj) hp (upL_same v.so i _)
   have h:=h.mkMach b p ck q l { v with so:=upL v.so i (some (toldF x v.now d xs).2) }
   have hv2:OkMc (k+1) { v with so:=upL v.so i (some (toldF x v.now d xs).2) }:=upS_ok (OkMc_le hv (by omega) (by omega)) hi8 hx2 (hid2.trans hid)
   refine w_ite (fun c0=>?_) fun c0=>?_
   ·have c0:(toldF x v.now d xs).1=0:=by simpa using c0
    rw [if_pos c0] at hone
    rw [hone]
    refine w_ld (x:=dS d) h rfl ?_
    rw [hi]
    refine w_call (pump_tri b a (k+1) { v with so:=upL v.so i (some (toldF x v.now d xs).2) } hv2 i (toldF x v.now d xs).2 (upL_same v.so i _) o (by omega)) h fun _ w h=>?_
    have e:pumpM { v with so:=upL v.so i (some (toldF x v.now d xs).2) } i (toldF x v.now d xs).2 o=pumpM v i (toldF x v.now d xs).2 o:=by
     unfold pumpM
     dsimp only
     rw [upL_upL]
    rw [e] at h
    exact Own.retP c0 h.fin
   ·have c0:¬ (toldF x v.now d xs).1=0:=by simpa using c0
    rw [if_neg c0] at hone
    rw [hone]
    exact Own.retP rfl h.fin
abbrev KOu:Ks:=[.sl,.sl,.sl,.int .u64]
def outR (r:Ks.T KOu) (o:Ou):SP:=pur (r.2.2.2=o.wd) (arr r.1 KS o.dep^arr r.2.1 KS o.dr^arr r.2.2.1 KI o.ft)
instance (r:Ks.T KOu) (o:Ou):NoR (outR r o):=by unfold outR;infer_instance
theorem do_tri (b:Nat) (k:Int) (v:Mc) (hv:OkMc k v) (hk:k < 1000000) (d:Dd) (hd:OkD d) (xs:List (Ks.T KR)) (hxl:xs.length≤4294967296) :
  Tri Tryz.prog N_egress_Machine_Do [.lf (.ptr (some ⟨b,0⟩)),.agg (Ks.mk KD d)] [.agg KOu,.lf (.int .i64)] (mach b v^rarr (dR d) KR xs) (fun r=>pur (r.2=(doF v d xs).1.2) (mach b (doF v d xs).2^outR r.1 (doF v d xs).1.1)) :=
 tri_0 (call_egress_Machine_Do (some ⟨b,0⟩) d) fun w0 S R h=>by
  unfold W_egress_Machine_Do
  refine w_new (h.le (star_emp _)) fun n1 w h=>w_new h fun n2 w h=>w_ite (fun c=>(by simp at c)) fun _=>w_new h fun n4 w h=>?_
  have h:=h.nil KS
  have h:=h.nil KS
  have h:=h.nil KI
  have h:=h.mkOutp n4 ⟨none,0,0⟩ ⟨none,0,0⟩ ⟨none,0,0⟩ ou0
  have h:Own w0 S R w (blk n1 (Ks.mk KD d)^outp n4 ou0^mach b v^rarr (dR d) KR xs^blk n2 [.sl ⟨none,0,0⟩,.sl ⟨none,0,0⟩,.sl ⟨none,0,0⟩,.int .u64 0]^emp):=h.fin
  refine w_join h (fun _=>outp n4 (stepM v d xs).2.1^mach b (stepM v d xs).2.2^blk n2 [.sl ⟨none,0,0⟩,.sl ⟨none,0,0⟩,.sl ⟨none,0,0⟩,.int .u64 0]^emp) (fun y:Int=>y=(stepM v d xs).1) (fun (y:Int) w hy h=>?_) ?_
  ·rw [hy]
   refine w_ite (fun c=>?_) fun c=>?_
   ·have c:(stepM v d xs).1≠0:=by simpa using c
    rw [show doF v d xs=((ou0,(stepM v d xs).1),(stepM v d xs).2.2) by unfold doF;rw [if_pos c]]
    refine w_setAll h (by rfl) fun w h=>w_ldAll (b:=n2) (x:=((⟨none,0,0⟩,⟨none,0,0⟩,⟨none,0,0⟩,0):Ks.T KOu)) h rfl ?_
    have h:=h.nil KS
    have h:=h.nil KS
    have h:=h.nil KI
    have h:Own w0 S R w (outR (⟨none,0,0⟩,⟨none,0,0⟩,⟨none,0,0⟩,0) ou0^mach b (stepM v d xs).2.2^emp):=Own.toPur (p:=((⟨none,0,0⟩,⟨none,0,0⟩,⟨none,0,0⟩,0):Ks.T KOu).2.2.2=ou0.wd) (A:=arr ⟨none,0,0⟩ KS []^arr ⟨none,0,0⟩ KS []^arr ⟨none,0,0⟩ KI []) rfl h.fin
    exact Own.retP rfl h.fin
   ·have c:(stepM v d xs).1=0:=by simpa using c
    rw [show doF v d xs=(((stepM v d xs).2.1,0),(stepM v d xs).2.2) by unfold doF;rw [if_neg (fun x=>x c)]]
    obtain ⟨s1,s2,s3,h⟩:=h.outp n4
    refine w_ldAll (b:=n4) (x:=((s1,s2,s3,(stepM v d xs).2.1.wd):Ks.T KOu)) h rfl (w_setAll h (by rfl) fun w h=>w_ldAll (b:=n2) (x:=((s1,s2,s3,(stepM v d xs).2.1.wd):Ks.T KOu)) h rfl ?_)
    have h:Own w0 S R w (outR (s1,s2,s3,(stepM v d xs).2.1.wd) (stepM v d xs).2.1^mach b (stepM v d xs).2.2^emp):=Own.toPur (p:=((s1,s2,s3,(stepM v d xs).2.1.wd):Ks.T KOu).2.2.2=(stepM v d xs).2.1.wd) (A:=arr s1 KS (stepM v d xs).2.1.dep^arr s2 KS (stepM v d xs).2.1.dr^arr s3 KI (stepM v d xs).2.1.ft) rfl h.fin
    exact Own.retP rfl h.fin
  ·refine w_ld (x:=dK d) h rfl (w_ite (fun c5=>?_) fun c5=>?_)
   ·have c5:dK d=5:=by simpa using c5
    rw [show stepM v d xs=((moveF v.now (dA d)).1,ou0,{ v with now:=(moveF v.now (dA d)).2 }) by unfold stepM;rw [if_pos c5]]
    obtain ⟨p,ck,q,l,h⟩:=h.mach b
    refine w_drw h fun w h=>w_deref (w_ld (x:=dA d) h rfl (w_ld (x:=some ⟨ck,0⟩) h rfl (w_call (move_tri ck v.now (dA d)) h fun r w h=>?_)))
    obtain ⟨hr,h⟩:=h.purP;rw [hr]
    have h:=h.mkMach b p ck q l { v with now:=(moveF v.now (dA d)).2 }
    exact ⟨rfl,h.fin⟩
   have c5:¬ dK d=5:=by simpa using c5
   refine w_ite (fun c6=>?_) fun c6=>?_
   ·have c6:dK d=6:=by simpa using c6
    rw [show stepM v d xs=(0,(pullF v ou0).1,(pullF v ou0).2) by unfold stepM;rw [if_neg c5,if_pos c6]]
    refine w_call (pull_tri b n4 k v hv ou0) h fun _ w h=>?_
    exact ⟨rfl,h.fin⟩
   have c6:¬ dK d=6:=by simpa using c6
   refine w_ite (fun c8=>?_) fun c8=>?_
   ·have c8:dK d=8:=by simpa using c8
    rw [show stepM v d xs=((setM v (dC d)).1,ou0,(setM v (dC d)).2) by unfold stepM;rw [if_neg c5,if_neg c6,if_pos c8]]
    refine w_ld (x:=dC d) h rfl (w_call (set_tri b v (dC d)) h fun r w h=>?_)
    obtain ⟨hr,h⟩:=h.purP;rw [hr]
    exact ⟨rfl,h.fin⟩
   have c8:¬ dK d=8:=by simpa using c8
   have estep:stepM v d xs=if isOne (dK d) then oneM v d xs ou0 else (12,ou0,v):=by unfold stepM;rw [if_neg c5,if_neg c6,if_neg c8]
   refine w_join h (fun _=>blk n1 (Ks.mk KD d)^outp n4 ou0^mach b v^rarr (dR d) KR xs^blk n2 [.sl ⟨none,0,0⟩,.sl ⟨none,0,0⟩,.sl ⟨none,0,0⟩,.int .u64 0]^emp) (fun y:Bool=>y=isOne (dK d)) (fun (y:Bool) w hy h=>?_) ?_
   ·rw [hy]
    refine w_ite (fun c=>?_) fun c=>?_
    ·rw [if_pos c] at estep
     rw [estep]
     refine w_ldAll (b:=n1) (x:=d) h rfl ?_
     refine w_callL (A:=mach b v^outp n4 ou0) (Q:=rarr (dR d) KR xs) (one_tri b n4 k v hv hk d hd xs hxl ou0 ⟨by show (0:Nat)≤400;decide,by show (0:Nat)≤400;decide⟩) h fun r w h=>?_
     obtain ⟨hr,h⟩:=h.purP;rw [hr]
     exact ⟨rfl,h.fin⟩
    ·rw [if_neg (by rw [c];simp)] at estep
     rw [estep]
     exact ⟨rfl,h.fin⟩
   ·unfold isOne
    refine w_ite (fun c=>⟨by rw [c];rfl,h⟩) fun d1=>?_
    refine w_ite (fun c=>⟨by rw [d1,c];rfl,h⟩) fun d2=>?_
    refine w_ite (fun c=>⟨by rw [d1,d2,c];rfl,h⟩) fun d3=>?_
    refine w_ite (fun c=>⟨by rw [d1,d2,d3,c];rfl,h⟩) fun d4=>?_
    refine w_ite (fun c=>⟨by rw [d1,d2,d3,d4,c];rfl,h⟩) fun d5=>?_
    exact ⟨by rw [d1,d2,d3,d4,d5];rfl,h⟩
end EgF

namespace EgG
open Arith ArithC FqM EgM
abbrev KR:Ks:=[.int .u64,.int .u64]
abbrev OpE:=Dd × List (Ks.T KR)
abbrev opsE (s:Sl) (ps:List OpE):SP:=rarr s KD (ps.map Prod.fst)^rl (fun p:OpE=>rarr (dR p.1) KR p.2) ps
theorem rd_dR {ps:List OpE} {i:Nat} {o:OpE} (h:ps[i]?=some o):Rd (dR o.1) (rl (fun p:OpE=>rarr (dR p.1) KR p.2) ps) KR o.2:=rd_rl h (rd_rarr _ _ _)
end EgG

namespace EgH
open Arith ArithC TreeF FqM FqC SockC EgM EgA EgB EgC EgD EgE EgF
open SockM (Sk emitS doneS writeS loseS newS skFl skTso mayS)
open SockO (IvS)
open SockV (IvB)
theorem pump_ok {k:Int} {v:Mc} (hv:OkMc k v) {i:Nat} (hi:i < 8) {x:Sk} (hx:IvB k x) (hid:x.id=(i:Int)) (o:Ou):OkMc k (pumpM v i x o).2:=by
 have h:=pumpN_ok hv.un (fresh x+1) ⟨x,v.q,v.l,o⟩ (⟨hx,hid,hv.q⟩:OkPm k i ⟨x,v.q,v.l,o⟩)
 have h2:=upS_ok hv hi (x:=(pumpF i v.now ⟨x,v.q,v.l,o⟩).v) h.v h.id
 exact { h2 with q:=h.q }
theorem shut_ok {k:Int} {v:Mc} (hv:OkMc k v) (i:Nat) (o:Ou):OkMc k (shutM v i o).2:=by
 have h:=upN_ok hv i
 exact { h with q:=hv.q.close _ }
theorem pull_ok {k:Int} {v:Mc} (hv:OkMc k v) (o:Ou):OkMc k (pullF v o).2:=by
 have h:=FqN.deq_ok hv.q hv.un (rates_U hv)
 unfold pullF
 split
 ·rename_i s q e;rw [e] at h;exact { hv with q:=h }
 ·rename_i q e;rw [e] at h;exact { hv with q:=h }
theorem set_ok {k:Int} {v:Mc} (hv:OkMc k v) {c:Cf} (hc:0≤cH c∧U (cR c)):OkMc k (setM v c).2:=by
 have h:=hv.q.set hc
 unfold setM
 split
 ·rename_i h0
  refine { hv with q:=h,c:=?_ }
  unfold setF at h0
  by_cases hm:may c=true
  ·exact may_ok hm hc.1 hc.2
  ·rw [if_neg hm] at h0;cases h0
 ·exact { hv with q:=h }
theorem one_ok {k:Int} {v:Mc} (hv:OkMc k v) (hk:k < 1000000) (d:Dd) (xs:List (Int × Int)) (o:Ou):OkMc (k+1) (oneM v d xs o).2.2:=by
 have h1:=OkMc_le hv (j:=k+1) (by omega) (by omega)
 have hc:=hv.c.cap
 unfold oneM
 split
 ·exact h1
 ·rename_i hi
  have hi:0≤dS d∧dS d < 8:=Classical.not_not.1 hi
  have hi8:(dS d).toNat < 8:=by omega
  split
  ·split
   ·have hn:=SockV.new_ivB (dS d) (cMss v.c) (cCap v.c) ⟨by omega,hc.2⟩
    exact upS_ok h1 hi8 (ivB_le hn h1.kr.1 (by omega)) (by show dS d=_;omega)
   ·exact h1
  ·rename_i x hx
   obtain ⟨hxi,hxd,_⟩:=hv.so _ x hx
   split
   ·exact h1
   ·split
    ·exact shut_ok h1 _ _
    ·obtain ⟨a,b⟩:=told_ok hxi hk hv.un d xs
     split
     ·exact pump_ok h1 hi8 a (b.trans hxd) o
     ·exact upS_ok h1 hi8 a (b.trans hxd)
theorem do_ok {k:Int} {v:Mc} (hv:OkMc k v) (hk:k < 1000000) {d:Dd} (hd:OkD d) (xs:List (Int × Int)):OkMc (k+1) (doF v d xs).2:=by
 have h1:=OkMc_le hv (j:=k+1) (by omega) (by omega)
 have e:(doF v d xs).2=(stepM v d xs).2.2:=by unfold doF;split<;>rfl
 rw [e]
 unfold stepM
 split
 ·have hn:=hv.now
  have ha:=hd.a
  unfold U at ha
  refine { h1 with now:=?_ }
  show 0≤(moveF v.now (dA d)).2∧(moveF v.now (dA d)).2≤4611686018427387904
  unfold moveF
  split
  ·exact hn
  ·split
   ·exact hn
   ·exact ⟨ha.1,by show dA d≤_;omega⟩
 ·split
  ·exact pull_ok h1 _
  ·split
   ·exact set_ok h1 hd.c
   ·split
    ·exact one_ok hv hk d xs ou0
    ·exact h1
theorem new_ok {c:Cf} (hc:OkC c):OkMc 0 (newM c) where
 c:=hc
 now:=by show (0:Int)≤0∧(0:Int)≤4611686018427387904;decide
 q:=OkQ.new hc
 so:=fun i x h=>by cases h
 kr:=by decide
theorem _root_.Go.X.Own.outR {w0 w:World} {S0 R0:Nat→Prop} {F G:SP} (h:Own w0 S0 R0 w F) (r:Ks.T KOu) {o:Ou} [tk:TakeK EgF.outR r F o G]:r.2.2.2=o.wd∧Own w0 S0 R0 w (arr r.1 KS o.dep^arr r.2.1 KS o.dr^arr r.2.2.1 KI o.ft^G):=by
 have h:Own w0 S0 R0 w (pur (r.2.2.2=o.wd) (arr r.1 KS o.dep^arr r.2.1 KS o.dr^arr r.2.2.1 KI o.ft)^G):=h.le tk.le
 obtain ⟨hr,h⟩:=h.purP
 exact ⟨hr,h.fin⟩
theorem nil_rarr (A:SP) (K:Ks):Le A (A^rarr ⟨none,0,0⟩ K []) :=
 (star_emp A).trans (star_mono Le.rfl fun w S R h=>⟨⟨⟨by simp [flat],fun _=>rfl,fun q hq=>by cases hq⟩,rfl⟩,h.1,fun k=>⟨fun hk=>absurd hk (h.2 k),fun hk=>absurd rfl hk.2⟩⟩)
theorem do0_tri (b:Nat) (k:Int) (v:Mc) (hv:OkMc k v) (hk:k < 1000000) (d:Dd) (hd:OkD d) (hR:dR d=⟨none,0,0⟩) :
  Tri Tryz.prog N_egress_Machine_Do [.lf (.ptr (some ⟨b,0⟩)),.agg (Ks.mk KD d)] [.agg KOu,.lf (.int .i64)] (mach b v) (fun r=>pur (r.2=(doF v d []).1.2) (mach b (doF v d []).2^outR r.1 (doF v d []).1.1)) :=
 (do_tri b k v hv hk d hd [] (by simp)).le (by rw [hR];exact nil_rarr _ _) (fun _=>Le.rfl)
abbrev plainC:Cf:=(3000,15000,100,50,10000000000,0,false,100000,1000)
abbrev dOpen (s:Int):Dd:=(1,s,0,0,0,⟨none,0,0⟩,0,0,0,0,0,0,false,0,0)
abbrev dSend (s n:Int):Dd:=(2,s,n,0,0,⟨none,0,0⟩,0,0,0,0,0,0,false,0,0)
abbrev dPull:Dd:=(6,0,0,0,0,⟨none,0,0⟩,0,0,0,0,0,0,false,0,0)
theorem dOpen_ok (s:Int):OkD (dOpen s):=⟨(by decide:(0:Int) < 9223372036854775808),U_lit 0,U_lit 0,(by decide:(0:Int)≤0),U_lit 0⟩
theorem dSend_ok (s n:Int) (h:n < 9223372036854775808):OkD (dSend s n):=⟨h,U_lit 0,U_lit 0,(by decide:(0:Int)≤0),U_lit 0⟩
theorem dPull_ok:OkD dPull:=⟨(by decide:(0:Int) < 9223372036854775808),U_lit 0,U_lit 0,(by decide:(0:Int)≤0),U_lit 0⟩
end EgH

namespace EgI
open Arith ArithC TreeF FqM FqC SockC EgM EgA EgB EgC EgD EgE EgF EgG EgH
open SockM (Sk emitS doneS writeS loseS newS skFl skTso mayS)
theorem do_step (v:Mc) (d:Dd) (xs:List (Int × Int)):(doF v d xs).2=(stepM v d xs).2.2:=by unfold doF;split<;>rfl
theorem do_err (v:Mc) (d:Dd) (xs:List (Int × Int)):(doF v d xs).1.2=(stepM v d xs).1:=by
 unfold doF
 by_cases h:(stepM v d xs).1≠0
 ·rw [if_pos h]
 ·rw [if_neg h];exact (Classical.not_not.1 h).symm
theorem move_r (now a:Int):((moveF now a).1=0↔now≤a∧a≤4611686018427387904)∧((moveF now a).1=0→(moveF now a).2=a)∧((moveF now a).1≠0→(moveF now a).2=now):=by
 unfold moveF
 split
 ·exact ⟨⟨fun h=>(by cases h),fun h=>(by omega)⟩,fun h=>(by cases h),fun _=>rfl⟩
 ·split
  ·exact ⟨⟨fun h=>(by cases h),fun h=>(by omega)⟩,fun h=>(by cases h),fun _=>rfl⟩
  ·exact ⟨⟨fun _=>(by omega),fun _=>rfl⟩,fun _=>rfl,fun h=>absurd rfl h⟩
end EgI

namespace EgJ
open Arith ArithC TreeF FqM FqC SockC EgM EgA EgB EgC EgD EgE EgF EgG EgH EgI
open SockM (Sk emitS doneS writeS loseS newS skFl skTso mayS)
open SockO (IvS)
open SockV (IvB)
def sgO (x:Option Fl):List Sg:=match x with
 | none=>[]
 | some f=>f.sg
theorem cnt_sg (x:Option Fl):cnt x=((sgO x).length:Int):=by cases x<;>rfl
theorem coll_sg (v:Qm) (t:Int) (j:Nat):sgO ((collectF v t).fl j)=sgO (v.fl j):=by
 show sgO (if _ then _ else _)=_
 split
 ·rename_i e
  obtain ⟨f,hf,hs,_⟩:=FqM.idle_some e
  rw [hf]
  exact hs.symm
 ·rfl
theorem enq_sg (v:Qm) (s:Sg) (t:Int) (hk:0≤sK s∧sK s≤7) (hl:1≤sLn s∧sLn s≤65536):((enqF v s t).1=(0,0)∧∀ j,sgO ((enqF v s t).2.fl j)=sgO (v.fl j)++if j=(sK s).toNat then [drawn v s t] else []) ∨
  (((enqF v s t).1=(2,0)∨(enqF v s t).1=(3,0)∨(enqF v s t).1=(4,0))∧∀ j,sgO ((enqF v s t).2.fl j)=sgO (v.fl j)):=by
 unfold enqF
 rw [if_neg (fun h=>h hk),if_neg (fun h=>h hl)]
 split
 ·refine .inl ⟨rfl,fun j=>?_⟩
  dsimp only
  rw [FqM.add_eq]
  show sgO (upF (collectF v t).fl (sK s).toNat _ j)=_
  by_cases e:j=(sK s).toNat
  ·rw [e,upF_same,if_pos rfl]
   show ((woken (collectF v t) (sK s).toNat t).sg++[drawn v s t])=_
   rw [woken_sg,← coll_sg v t]
   cases (collectF v t).fl (sK s).toNat<;>rfl
  ·rw [upF_ne _ _ e,if_neg e,coll_sg,List.append_nil]
 ·rename_i hf
  refine .inr ⟨?_,coll_sg v t⟩
  rcases FqT.fate_ne hf with h | h | h
  ·left;show (_,(0:Int))=_;rw [h]
  ·right;left;show (_,(0:Int))=_;rw [h]
  ·right;right;show (_,(0:Int))=_;rw [h]
theorem same_sg {u v:Qm} (h:FqQ.Same u v) (j:Nat):sgO (v.fl j)=sgO (u.fl j):=by
 have:=h j
 cases hu:u.fl j with
 | none =>
  rw [hu] at this
  cases hv:v.fl j with
  | none=>rfl
  | some g=>rw [hv] at this;cases this
 | some f =>
  obtain ⟨g,hg,_,hs,_⟩:=h.to hu
  rw [hg]
  exact hs
theorem deq_sg {v:Qm} (hv:OkQ v) {t:Int} (ut:U t) {rates:List Int} (hr:∀ x∈rates,U x) :
  ((deqF v t rates).1=none∧∀ j,sgO ((deqF v t rates).2.fl j)=sgO (v.fl j))∨∃ (i:Nat) (s:Sg),(deqF v t rates).1=some s∧(sK s=(i:Int)∧i < 8)∧∀ j,sgO (v.fl j)=(if j=i then [s] else [])++sgO ((deqF v t rates).2.fl j):=by
 obtain ⟨u,hu,hc⟩:=FqQ.ran hv ut hr
 rcases hc with ⟨_,he⟩ | ⟨i,f,s,l,hA,hcr,hs,htf,he⟩
 ·left
  rw [he]
  exact ⟨rfl,same_sg hu.same⟩
 ·right
  have hF:=(hu.ok.fl i f hA.fl).2
  obtain ⟨hsk,hso⟩:=hF.sg s (by rw [hs];simp)
  rw [he]
  refine ⟨i,s,rfl,⟨hsk,hA.lt⟩,fun j=>?_⟩
  rw [← same_sg hu.same j]
  show _=_++sgO (upF u.fl i _ j)
  by_cases e:j=i
  ·rw [e,upF_same,if_pos rfl,hA.fl]
   show f.sg=_
   rw [hs];rfl
  ·rw [upF_ne _ _ e,if_neg e]
   rfl
theorem close_sg (v:Qm) (i:Nat) (hi:i < 8):(closeF v (i:Int)).1=sgO (v.fl i)∧∀ j,sgO ((closeF v (i:Int)).2.fl j)=if j=i then [] else sgO (v.fl j):=by
 cases hf:v.fl i with
 | none =>
  have e:closeF v (i:Int)=([],v):=by unfold closeF;rw [if_neg (by omega),Int.toNat_natCast,hf]
  rw [e]
  refine ⟨rfl,fun j=>?_⟩
  by_cases ej:j=i
  ·rw [if_pos ej,ej];show sgO (v.fl i)=_;rw [hf];rfl
  ·rw [if_neg ej]
 | some f =>
  have e:(closeF v (i:Int)).1=f.sg∧(closeF v (i:Int)).2.fl=upF v.fl i none:=by unfold closeF;rw [if_neg (by omega),Int.toNat_natCast,hf];exact ⟨rfl,rfl⟩
  rw [e.1,e.2]
  refine ⟨rfl,fun j=>?_⟩
  by_cases ej:j=i
  ·rw [ej,upF_same,if_pos rfl];rfl
  ·rw [upF_ne _ _ ej,if_neg ej]
theorem sg_id {v:Qm} (hv:OkQ v) {i:Nat} {s:Sg} (h:s∈sgO (v.fl i)):sK s=(i:Int):=by
 cases hf:v.fl i with
 | none=>rw [hf] at h;cases h
 | some f=>rw [hf] at h;exact ((hv.fl i f hf).2.sg s h).1
abbrev b0 (c:Ct):Int:=c.2.1
abbrev b1 (c:Ct):Int:=c.2.2.1
abbrev b2 (c:Ct):Int:=c.2.2.2.1
abbrev b3 (c:Ct):Int:=c.2.2.2.2.1
abbrev b4 (c:Ct):Int:=c.2.2.2.2.2.1
abbrev b5 (c:Ct):Int:=c.2.2.2.2.2.2.1
structure Bk (B:Int) (c:Ct) (n:Int):Prop where
 z:c.1=0
 p1:0≤b1 c
 p2:0≤b2 c
 p3:0≤b3 c
 p4:0≤b4 c
 p5:0≤b5 c
 q:cWt c=n
 nn:0≤n
 s:b0 c=b1 c+b2 c+b3 c+b4 c+b5 c+n
 b:b0 c≤B
theorem Bk.le {B D:Int} {c:Ct} {n:Int} (h:Bk B c n) (hb:B≤D):Bk D c n:={ h with b:=Int.le_trans h.b hb }
theorem inc_eq {n:Int} (h:0≤n∧n < 4611686018427387904):inc n=n+1:=wi (by omega) (by omega)
theorem dec_eq {n:Int} (h:0≤n∧n < 4611686018427387904):dec n=n - 1:=wi (by omega) (by omega)
theorem bk_in {B:Int} {c:Ct} {n:Int} (h:Bk B c n) (hB:B < 1152921504606846976):Bk (B+1) (note1 c 0).2 (n+1)∧b5 (note1 c 0).2=b5 c∧b1 (note1 c 0).2=b1 c∧b0 (note1 c 0).2=b0 c+1:=by
 obtain ⟨z,p1,p2,p3,p4,p5,q,hn,s,b⟩:=h
 have e:note1 c 0=(0,(c.1,inc (b0 c),b1 c,b2 c,b3 c,b4 c,b5 c,inc (cWt c))):=rfl
 rw [e,inc_eq (n:=b0 c) (by omega),inc_eq (n:=cWt c) (by omega)]
 exact ⟨⟨z,p1,p2,p3,p4,p5,by show cWt c+1=n+1;omega,by omega,by show b0 c+1=_;show b0 c+1=b1 c+b2 c+b3 c+b4 c+b5 c+(n+1);omega,by show b0 c+1≤B+1;omega⟩,rfl,rfl,rfl⟩
theorem bk_out {B:Int} {c:Ct} {n:Int} (h:Bk B c n) (hB:B < 1152921504606846976) (hn:1≤n) {f:Int} (hf:1≤f∧f≤5):Bk B (note1 c f).2 (n - 1)∧(f=5→b5 (note1 c f).2=b5 c+1)∧(f≠5→b5 (note1 c f).2=b5 c)∧(f=1→b1 (note1 c f).2=b1 c+1)∧(f≠1→b1 (note1 c f).2=b1 c)∧b0 (note1 c f).2=b0 c:=by
 obtain ⟨z,p1,p2,p3,p4,p5,q,hn0,s,b⟩:=h
 have e:note1 c f=(0,bump (wait c (dec (cWt c))) f):=by
  unfold note1
  rw [if_neg (by omega),if_neg (by omega),if_neg (by omega)]
 have d:=dec_eq (n:=cWt c) (by omega)
 have i1:=inc_eq (n:=b1 c) (by omega)
 have i2:=inc_eq (n:=b2 c) (by omega)
 have i3:=inc_eq (n:=b3 c) (by omega)
 have i4:=inc_eq (n:=b4 c) (by omega)
 have i5:=inc_eq (n:=b5 c) (by omega)
 rw [e,d]
 have:f=1∨f=2∨f=3∨f=4∨f=5:=by omega
 rcases this with rfl | rfl | rfl | rfl | rfl
 ·have e2:bump (wait c (cWt c - 1)) 1=(c.1,b0 c,inc (b1 c),b2 c,b3 c,b4 c,b5 c,cWt c - 1):=rfl
  rw [e2,i1]
  exact ⟨⟨z,(by show 0≤b1 c+1;omega),p2,p3,p4,p5,(by show cWt c - 1=n - 1;omega),by omega,(by show b0 c=b1 c+1+b2 c+b3 c+b4 c+b5 c+(n - 1);omega),b⟩,fun x=>(by cases x),fun _=>rfl,fun _=>rfl,fun x=>absurd rfl x,rfl⟩
 ·have e2:bump (wait c (cWt c - 1)) 2=(c.1,b0 c,b1 c,inc (b2 c),b3 c,b4 c,b5 c,cWt c - 1):=rfl
  rw [e2,i2]
  exact ⟨⟨z,p1,(by show 0≤b2 c+1;omega),p3,p4,p5,(by show cWt c - 1=n - 1;omega),by omega,(by show b0 c=b1 c+(b2 c+1)+b3 c+b4 c+b5 c+(n - 1);omega),b⟩,fun x=>(by cases x),fun _=>rfl,fun x=>(by cases x),fun _=>rfl,rfl⟩
 ·have e2:bump (wait c (cWt c - 1)) 3=(c.1,b0 c,b1 c,b2 c,inc (b3 c),b4 c,b5 c,cWt c - 1):=rfl
  rw [e2,i3]
  exact ⟨⟨z,p1,p2,(by show 0≤b3 c+1;omega),p4,p5,(by show cWt c - 1=n - 1;omega),by omega,(by show b0 c=b1 c+b2 c+(b3 c+1)+b4 c+b5 c+(n - 1);omega),b⟩,fun x=>(by cases x),fun _=>rfl,fun x=>(by cases x),fun _=>rfl,rfl⟩
 ·have e2:bump (wait c (cWt c - 1)) 4=(c.1,b0 c,b1 c,b2 c,b3 c,inc (b4 c),b5 c,cWt c - 1):=rfl
  rw [e2,i4]
  exact ⟨⟨z,p1,p2,p3,(by show 0≤b4 c+1;omega),p5,(by show cWt c - 1=n - 1;omega),by omega,(by show b0 c=b1 c+b2 c+b3 c+(b4 c+1)+b5 c+(n - 1);omega),b⟩,fun x=>(by cases x),fun _=>rfl,fun x=>(by cases x),fun _=>rfl,rfl⟩
 ·have e2:bump (wait c (cWt c - 1)) 5=(c.1,b0 c,b1 c,b2 c,b3 c,b4 c,inc (b5 c),cWt c - 1):=rfl
  rw [e2,i5]
  exact ⟨⟨z,p1,p2,p3,p4,(by show 0≤b5 c+1;omega),(by show cWt c - 1=n - 1;omega),by omega,(by show b0 c=b1 c+b2 c+b3 c+b4 c+(b5 c+1)+(n - 1);omega),b⟩,fun _=>rfl,fun x=>absurd rfl x,fun x=>(by cases x),fun _=>rfl,rfl⟩
theorem noteL_eq (l:Nat→Ct) {i:Nat} (hi:i < 8) (f:Int):(noteL l (i:Int) f).2=EgM.upL l i (note1 (l i) f).2:=by
 unfold noteL
 rw [if_neg (by omega),Int.toNat_natCast]
def BkL (B:Int) (l:Nat→Ct) (fl:Nat→Option Fl):Prop:=∀ i,i < 8→Bk B (l i) (cnt (fl i))
theorem BkL.le {B D:Int} {l:Nat→Ct} {fl:Nat→Option Fl} (h:BkL B l fl) (hb:B≤D):BkL D l fl:=fun i hi=>(h i hi).le hb
theorem BkL.same {B:Int} {l:Nat→Ct} {fl gl:Nat→Option Fl} (h:BkL B l fl) (hs:∀ j,sgO (gl j)=sgO (fl j)):BkL B l gl:=fun i hi=>by rw [cnt_sg,hs,← cnt_sg];exact h i hi
theorem pull_bk {k B:Int} {v:Mc} (hv:OkMc k v) (hb:BkL B v.l v.q.fl) (hB:B < 1152921504606846976) (o:Ou):BkL B (pullF v o).2.l (pullF v o).2.q.fl:=by
 unfold pullF
 rcases deq_sg hv.q hv.un (rates_U hv) with ⟨h1,h2⟩ | ⟨i,s,h1,⟨h3,h4⟩,h2⟩
 ·cases hd:deqF v.q v.now (ratesF v.so) with
  | mk x q =>
  rw [hd] at h1 h2
  dsimp only at h1
  subst h1
  exact hb.same h2
 ·cases hd:deqF v.q v.now (ratesF v.so) with
  | mk x q =>
  rw [hd] at h1 h2
  dsimp only at h1
  subst h1
  show BkL B (noteL v.l (sK s) 1).2 q.fl
  rw [h3,noteL_eq v.l h4]
  intro j hj
  have hj2:=h2 j
  have hbj:=hb j hj
  by_cases e:j=i
  ·rw [e] at hj2 hbj ⊢
   rw [EgM.upL_same]
   rw [if_pos rfl] at hj2
   have hc:cnt (v.q.fl i)=cnt (q.fl i)+1:=by rw [cnt_sg,cnt_sg,hj2];simp
   have:=(bk_out hbj hB (by rw [hc];have:=cnt_nn (q.fl i);omega) (f:=1) (by omega)).1
   rw [hc] at this
   rw [show cnt (q.fl i)=cnt (q.fl i)+1 - 1 by omega];exact this
  ·rw [EgM.upL_ne _ _ e]
   rw [if_neg e,List.nil_append] at hj2
   rw [cnt_sg,← hj2,← cnt_sg];exact hbj
theorem enter_bk {k B now : Int} {i : Nat} (hi : i < 8) {s : Pm} (h : OkPm k i s) (hn : U now) (he : (emitS s.v now).1.2 = 0) (hb : BkL B s.l s.q.fl) (hB : B < 1152921504606846975) : BkL (B + 1) (enter i now s).1.l (enter i now s).1.q.fl := by
  have hw := went_of h.v hn he
  have hg1 : sK (emitS s.v now).1.1 = (i : Int) := hw.id.trans h.id
  have hg2 : 1 ≤ sLn (emitS s.v now).1.1 ∧ sLn (emitS s.v now).1.1 ≤ 65536 := hw.n
  obtain ⟨g, hg⟩ : ∃ g, g = (emitS s.v now).1.1 := ⟨_, rfl⟩
  have hin := bk_in (hb i hi) (by omega)
  rw [← hg] at hg1 hg2
  have een : enter i now s = if (enqF s.q g now).1.1 = 0 then (⟨(emitS s.v now).2, (enqF s.q g now).2, (noteL s.l i 0).2, s.o⟩, 0)
        else (⟨(doneS (emitS s.v now).2 g.2.2.1).2, (enqF s.q g now).2, (dropF (noteL s.l i 0).2 s.o g (enqF s.q g now).1.1).2, (dropF (noteL s.l i 0).2 s.o g (enqF s.q g now).1.1).1⟩, 1) := by
    rw [hg]; rfl
  have hgn : (sK g).toNat = i := by omega
  rcases enq_sg s.q g now (by omega) hg2 with ⟨h1, h2⟩ | ⟨h1, h2⟩
  · rw [if_pos (by rw [h1])] at een
    rw [een]
    show BkL (B + 1) (noteL s.l i 0).2 (enqF s.q g now).2.fl
    rw [noteL_eq s.l hi]
    intro j hj
    by_cases e : j = i
    · rw [e, EgM.upL_same, cnt_sg, h2, hgn, if_pos rfl, List.length_append, List.length_singleton]
      have := hin.1
      rw [cnt_sg] at this
      exact_mod_cast this
    · rw [EgM.upL_ne _ _ e, cnt_sg, h2, hgn, if_neg e, List.append_nil, ← cnt_sg]
      exact (hb j hj).le (by omega)
  · have hne : ¬ (enqF s.q g now).1.1 = 0 := by rcases h1 with h | h | h <;> rw [h] <;> (show ¬ (_ : Int) = 0; decide)
    have hfr : 1 ≤ (enqF s.q g now).1.1 ∧ (enqF s.q g now).1.1 ≤ 5 := by
      rcases h1 with h | h | h <;> rw [h]
      · show (1:Int) ≤ 2 ∧ (2:Int) ≤ 5; decide
      · show (1:Int) ≤ 3 ∧ (3:Int) ≤ 5; decide
      · show (1:Int) ≤ 4 ∧ (4:Int) ≤ 5; decide
    rw [if_neg hne] at een
    rw [een]
    show BkL (B + 1) (noteL (noteL s.l i 0).2 (sK g) (enqF s.q g now).1.1).2 (enqF s.q g now).2.fl
    rw [hg1, noteL_eq s.l hi, noteL_eq _ hi]
    intro j hj
    rw [cnt_sg, h2, ← cnt_sg]
    by_cases e : j = i
    · rw [e, EgM.upL_same, EgM.upL_same]
      have := (bk_out hin.1 (by omega) (by have := (hb i hi).nn; omega) hfr).1
      rw [show cnt (s.q.fl i) + 1 - 1 = cnt (s.q.fl i) by omega] at this
      exact this
    · rw [EgM.upL_ne _ _ e, EgM.upL_ne _ _ e]
      exact (hb j hj).le (by omega)
theorem pumpN_bk {k now:Int} {i:Nat} (hi:i < 8) (hn:U now):∀ (n:Nat) (s:Pm) (B:Int),OkPm k i s→BkL B s.l s.q.fl→B+n < 1152921504606846975→BkL (B+n) (pumpN i now n s).l (pumpN i now n s).q.fl
 | 0,s,B,_,hb,_=>by show BkL (B+(0:Nat)) s.l s.q.fl;rw [show B+((0:Nat):Int)=B by omega];exact hb
 | n+1,s,B,h,hb,hB=>by
  unfold pumpN
  by_cases he:(emitS s.v now).1.2=0
  ·rw [if_neg (fun c=>c he)]
   have h1:=(enter_ok h hn he).1
   have h2:=enter_bk hi h hn he hb (by omega)
   split
   ·have:=pumpN_bk hi hn n _ (B+1) h1 h2 (by omega)
    rw [show B+1+(n:Int)=B+((n+1:Nat):Int) by omega] at this
    exact this
   ·exact h2.le (by omega)
  ·rw [if_pos he]
   exact hb.le (by omega)
theorem fresh_r {k:Int} {x:Sk} (h:IvS k x):(fresh x:Int)≤1073745920:=by
 have h1:=h.ok.bf.ll
 have h2:=h.ok.bf.l
 have h3:=h.ok.bf.un
 have h4:=h.ok.bf.nw
 have h5:=h.ok.bl
 have h6:=List.countP_le_length (p:=fun p=>Board.pLo p) (l:=x.bd.1)
 have e:fresh x=(SockA.bW x.bf - SockA.bN x.bf).toNat+x.bd.1.countP (fun p=>Board.pLo p):=rfl
 rw [e];omega
theorem drops_bk {B:Int} {i:Nat} (hi:i < 8) (hB:B < 1152921504606846976):∀ (ss:List Sg) (l:Nat→Ct) (o:Ou),(∀ s∈ss,sK s=(i:Int))→Bk B (l i) (ss.length:Int)→Bk B ((dropsF l o ss).2 i) 0∧b5 ((dropsF l o ss).2 i)=b5 (l i)+(ss.length:Int)∧b1 ((dropsF l o ss).2 i)=b1 (l i)∧b0 ((dropsF l o ss).2 i)=b0 (l i)∧∀ j,j≠i→(dropsF l o ss).2 j=l j
 | [],l,o,_,hb=>⟨hb,by show b5 (l i)=b5 (l i)+((0:Nat):Int);omega,rfl,rfl,fun _ _=>rfl⟩
 | s :: ss,l,o,hs,hb=>by
  have hk:=hs s (List.mem_cons_self ..)
  have e:(dropF l o s 5).2=EgM.upL l i (note1 (l i) 5).2:=by show (noteL l (sK s) 5).2=_;rw [hk,noteL_eq l hi]
  rw [List.length_cons] at hb ⊢
  obtain ⟨c1,c2,_,_,c5,c6⟩:=bk_out hb hB (by omega) (f:=5) (by omega)
  obtain ⟨d1,d2,d3,d4,d5⟩:=drops_bk hi hB ss (dropF l o s 5).2 (dropF l o s 5).1 (fun x hx=>hs x (List.mem_cons_of_mem _ hx)) (by rw [e,EgM.upL_same];rw [show (ss.length:Int)=((ss.length+1:Nat):Int) - 1 by omega];exact c1)
  have x5:b5 ((dropF l o s 5).2 i)=b5 (l i)+1:=by rw [e,EgM.upL_same];exact c2 rfl
  have x1:b1 ((dropF l o s 5).2 i)=b1 (l i):=by rw [e,EgM.upL_same];exact c5 (by decide)
  have x0:b0 ((dropF l o s 5).2 i)=b0 (l i):=by rw [e,EgM.upL_same];exact c6
  exact ⟨d1,by show b5 ((dropsF (dropF l o s 5).2 (dropF l o s 5).1 ss).2 i)=_;omega,d3.trans x1,d4.trans x0,fun j hj=>by
   show (dropsF (dropF l o s 5).2 (dropF l o s 5).1 ss).2 j=l j
   rw [d5 j hj,e,EgM.upL_ne _ _ hj]⟩
theorem shut_bk {k B:Int} {v:Mc} (hv:OkMc k v) (hb:BkL B v.l v.q.fl) (hB:B < 1152921504606846976) {i:Nat} (hi:i < 8) (o:Ou):BkL B (shutM v i o).2.l (shutM v i o).2.q.fl∧b5 ((shutM v i o).2.l i)=b5 (v.l i)+((closeF v.q (i:Int)).1.length:Int):=by
 obtain ⟨c1,c2⟩:=close_sg v.q i hi
 have hids:∀ s∈(closeF v.q (i:Int)).1,sK s=(i:Int):=fun s hs=>by rw [c1] at hs;exact sg_id hv.q hs
 have hbi:=hb i hi
 rw [cnt_sg,← c1] at hbi
 obtain ⟨d1,d2,_,_,d5⟩:=drops_bk hi hB (closeF v.q (i:Int)).1 v.l o hids hbi
 refine ⟨fun j hj=>?_,d2⟩
 show Bk B ((dropsF v.l o (closeF v.q (i:Int)).1).2 j) (cnt ((closeF v.q (i:Int)).2.fl j))
 rw [cnt_sg,c2 j]
 by_cases e:j=i
 ·rw [if_pos e,e];exact d1
 ·rw [if_neg e,d5 j e,← cnt_sg];exact hb j hj
theorem set_bk {B:Int} {v:Mc} (hb:BkL B v.l v.q.fl) (c:Cf):BkL B (setM v c).2.l (setM v c).2.q.fl:=by
 have e:(setF v.q c).2.fl=v.q.fl:=by unfold setF;split<;>rfl
 unfold setM
 split
 ·show BkL B v.l (setF v.q c).2.fl;rw [e];exact hb
 ·show BkL B v.l (setF v.q c).2.fl;rw [e];exact hb
theorem one_bk {k B:Int} {v:Mc} (hv:OkMc k v) (hk:k < 1000000) (hb:BkL B v.l v.q.fl) (hB:B < 1152921500000000000) (d:Dd) (xs:List (Int × Int)) (o:Ou):BkL (B+2147483648) (oneM v d xs o).2.2.l (oneM v d xs o).2.2.q.fl:=by
 have h0:BkL (B+2147483648) v.l v.q.fl:=hb.le (by omega)
 unfold oneM
 split
 ·exact h0
 ·rename_i hi
  have hi:0≤dS d∧dS d < 8:=Classical.not_not.1 hi
  have hi8:(dS d).toNat < 8:=by omega
  split
  ·split
   ·exact h0
   ·exact h0
  ·rename_i x hx
   obtain ⟨hxi,hxd,_⟩:=hv.so _ x hx
   split
   ·exact h0
   ·split
    ·exact (shut_bk hv hb (by omega) hi8 o).1.le (by omega)
    ·obtain ⟨a,b⟩:=told_ok hxi hk hv.un d xs
     split
     ·have hs:OkPm (k+1) ((dS d).toNat:Int) ⟨(toldF x v.now d xs).2,v.q,v.l,o⟩:=⟨a,b.trans hxd,hv.q⟩
      have hfr:=fresh_r a.i
      have:=pumpN_bk hi8 hv.un (fresh (toldF x v.now d xs).2+1) ⟨(toldF x v.now d xs).2,v.q,v.l,o⟩ B hs hb (by omega)
      exact this.le (by omega)
     ·exact h0
theorem do_bk {k B:Int} {v:Mc} (hv:OkMc k v) (hk:k < 1000000) (hb:BkL B v.l v.q.fl) (hB:B < 1152921500000000000) (d:Dd) (xs:List (Int × Int)):BkL (B+2147483648) (doF v d xs).2.l (doF v d xs).2.q.fl:=by
 have h0:BkL (B+2147483648) v.l v.q.fl:=hb.le (by omega)
 rw [do_step]
 unfold stepM
 split
 ·exact h0
 ·split
  ·exact (pull_bk hv hb (by omega) ou0).le (by omega)
  ·split
   ·exact set_bk h0 _
   ·split
    ·exact one_bk hv hk hb hB d xs ou0
    ·exact h0
theorem new_bk (c:Cf):BkL 0 (newM c).l (newM c).q.fl:=fun i _=>⟨rfl,Int.le_refl 0,Int.le_refl 0,Int.le_refl 0,Int.le_refl 0,Int.le_refl 0,rfl,Int.le_refl 0,rfl,Int.le_refl 0⟩
end EgJ

namespace EgK
open Arith ArithC TreeF FqM FqC SockC EgM EgA EgB EgC EgD EgE EgF EgG EgH EgI EgJ
open SockM (Sk emitS doneS writeS loseS newS skFl skTso mayS)
section
variable {w0 w : World} {S R : Nat → Prop}
end
abbrev c8 (c:Ct):List Int:=[c.1,b0 c,b1 c,b2 c,b3 c,b4 c,b5 c,cWt c]
end EgK

namespace EgL
open Arith ArithC TreeF FqM FqC SockC EgM EgA EgB EgC EgD EgE EgF EgG EgH EgI EgJ EgK
open SockM (Sk emitS doneS writeS loseS newS skFl skTso mayS)
section
variable {w0 w : World} {S R : Nat → Prop} {F G : SP}
theorem w_do0 {b:Nat} {v:Mc} {k:Int} {d:Dd} (h:Own w0 S R w F) [tk:TakeK EgB.mach b F v G] (hv:OkMc k v) (hk:k < 1000000) (hd:OkD d) (hR:dR d=⟨none,0,0⟩)
  {A:Rs.T [.agg KOu,.lf (.int .i64)]→WP} (hA:∀ (r:Rs.T [.agg KOu,.lf (.int .i64)]) (w:World),r.2=(doF v d []).1.2→Own w0 S R w (mach b (doF v d []).2^outR r.1 (doF v d []).1.1^G)→A r w) :
  call Tryz.prog N_egress_Machine_Do [.lf (.ptr (some ⟨b,0⟩)),.agg (Ks.mk KD d)] [.agg KOu,.lf (.int .i64)] A w:=by
 refine w_call (do0_tri b k v hv hk d hd hR) (h.le tk.le) fun r w h=>?_
 obtain ⟨hre,h⟩:=h.purP
 exact hA r w hre (h.le (star_assoc _ _ _))
end
abbrev dOne (k s n:Int):Dd:=(k,s,n,0,0,⟨none,0,0⟩,0,0,0,0,0,0,false,0,0)
theorem dOne_ok (k s n:Int) (h:n < 9223372036854775808):OkD (dOne k s n):=⟨h,U_lit 0,U_lit 0,(by decide:(0:Int)≤0),U_lit 0⟩
theorem open_eq (v:Mc) {s:Int} (hs:0≤s∧s < 8) (h:v.so s.toNat=none):doF v (dOne 1 s 0) []=((ou0,0),{ v with so:=upL v.so s.toNat (some (newS s (cMss v.c) (cCap v.c))) }):=by
 have e:stepM v (dOne 1 s 0) []=(0,ou0,{ v with so:=upL v.so s.toNat (some (newS s (cMss v.c) (cCap v.c))) }):=by
  show oneM v (dOne 1 s 0) [] ou0=_
  unfold oneM
  rw [if_neg (fun c=>c hs)]
  show (match v.so s.toNat with | none=>_ | some x=>_)=_
  rw [h]
  rfl
 unfold doF
 rw [e]
 rfl
end EgL

namespace EgN
open Arith ArithC TreeF FqM FqC SockC EgM EgA EgB EgC EgD EgE EgF EgG EgH EgI EgJ EgK EgL
open SockM (Sk emitS doneS writeS loseS newS skFl skTso mayS)
abbrev limC (n:Int):Cf:=(3000,15000,n,50,10000000000,0,false,100000,1000)
abbrev dr1 (n:Int):Mc:=(doF (newM (limC n)) (dOne 1 1 0) []).2
end EgN

namespace EgO
open Arith ArithC TreeF FqM FqC SockC EgM EgA EgB EgC EgD EgE EgF EgG EgH EgI EgJ EgK EgL
open SockM (Sk emitS doneS writeS loseS newS skFl skTso mayS)
theorem note_b5 (c:Ct) {f:Int} (hf:f≠5):b5 (note1 c f).2=b5 c:=by
 unfold note1
 split
 ·rfl
 ·rename_i h
  have:f=0∨f=1∨f=2∨f=3∨f=4:=by omega
  rcases this with rfl | rfl | rfl | rfl | rfl
  ·rfl
  all_goals (rw [if_neg (by decide)];split<;>rfl)
theorem noteL_b5 (l:Nat→Ct) (s:Int) {f:Int} (hf:f≠5) (j:Nat):b5 ((noteL l s f).2 j)=b5 (l j):=by
 unfold noteL
 split
 ·rfl
 ·show b5 (EgM.upL l s.toNat _ j)=_
  by_cases e:j=s.toNat
  ·rw [e,EgM.upL_same];exact note_b5 _ hf
  ·rw [EgM.upL_ne _ _ e]
theorem enter_sg {k now : Int} {i : Nat} (hi : i < 8) {s : Pm} (h : OkPm k i s) (hn : U now) (he : (emitS s.v now).1.2 = 0) :
    (∀ j, b5 ((enter i now s).1.l j) = b5 (s.l j)) ∧ (∀ j, j ≠ i → sgO ((enter i now s).1.q.fl j) = sgO (s.q.fl j)) ∧ (sgO (s.q.fl i)).length + (if (enqF s.q (emitS s.v now).1.1 now).1.1 = 0 then 1 else 0) ≤ (sgO ((enter i now s).1.q.fl i)).length := by
  have hw := went_of h.v hn he
  have hg1 : sK (emitS s.v now).1.1 = (i : Int) := hw.id.trans h.id
  have hg2 : 1 ≤ sLn (emitS s.v now).1.1 ∧ sLn (emitS s.v now).1.1 ≤ 65536 := hw.n
  obtain ⟨g, hg⟩ : ∃ g, g = (emitS s.v now).1.1 := ⟨_, rfl⟩
  rw [← hg] at hg1 hg2 ⊢
  have een : enter i now s = if (enqF s.q g now).1.1 = 0 then (⟨(emitS s.v now).2, (enqF s.q g now).2, (noteL s.l i 0).2, s.o⟩, 0)
        else (⟨(doneS (emitS s.v now).2 g.2.2.1).2, (enqF s.q g now).2, (dropF (noteL s.l i 0).2 s.o g (enqF s.q g now).1.1).2, (dropF (noteL s.l i 0).2 s.o g (enqF s.q g now).1.1).1⟩, 1) := by
    rw [hg]; rfl
  have hgn : (sK g).toNat = i := by omega
  rcases enq_sg s.q g now (by omega) hg2 with ⟨h1, h2⟩ | ⟨h1, h2⟩
  · rw [if_pos (by rw [h1])] at een
    rw [een, if_pos (by rw [h1])]
    refine ⟨fun j => noteL_b5 s.l i (by decide) j, fun j hj => ?_, ?_⟩
    · show sgO ((enqF s.q g now).2.fl j) = _
      rw [h2, hgn, if_neg hj, List.append_nil]
    · show _ ≤ (sgO ((enqF s.q g now).2.fl i)).length
      rw [h2, hgn, if_pos rfl, List.length_append, List.length_singleton]
      exact Nat.le_refl _
  · have hne : ¬ (enqF s.q g now).1.1 = 0 := by rcases h1 with h | h | h <;> rw [h] <;> (show ¬ (_ : Int) = 0; decide)
    have h5 : (enqF s.q g now).1.1 ≠ 5 := by rcases h1 with h | h | h <;> rw [h] <;> (show ¬ (_ : Int) = 5; decide)
    rw [if_neg hne] at een
    rw [een, if_neg hne]
    refine ⟨fun j => ?_, fun j hj => h2 j, ?_⟩
    · show b5 ((noteL (noteL s.l i 0).2 (sK g) (enqF s.q g now).1.1).2 j) = _
      rw [noteL_b5 _ _ h5, noteL_b5 _ _ (by decide)]
    · show _ ≤ (sgO ((enqF s.q g now).2.fl i)).length
      rw [h2]
      exact Nat.le_refl _
theorem send_eq (v:Mc) {s:Int} (hs:0≤s∧s < 8) {x:Sk} (h:v.so s.toNat=some x) {n:Int} (hn:(writeS x n).1=0):doF v (dOne 2 s n) []=(((pumpM v s.toNat (writeS x n).2 ou0).1,0),(pumpM v s.toNat (writeS x n).2 ou0).2):=by
 have e:stepM v (dOne 2 s n) []=(0,(pumpM v s.toNat (writeS x n).2 ou0).1,(pumpM v s.toNat (writeS x n).2 ou0).2):=by
  show oneM v (dOne 2 s n) [] ou0=_
  unfold oneM
  rw [if_neg (fun c=>c hs)]
  show (match v.so s.toNat with | none=>_ | some x=>_)=_
  rw [h]
  show (if (writeS x n).1=0 then _ else _)=_
  rw [if_pos hn]
  rfl
 unfold doF
 rw [e]
 rfl
theorem u_eq:(0:Int) < (BbrMm.mNew 1000).win∧(0:Int) < SockB.belowF (BbrMm.mNew 1000).rate (SockB.tsoF (BbrMm.mNew 1000).rate 1000) 100000:=by decide +kernel
def wrote (i n:Int):Sk:=⟨i,SockB.clampM 1000,100000,(n,0,0,1073741824),([],0),SockB.sp0,BbrMm.mNew (SockB.clampM 1000),0,0⟩
end EgO

namespace EgP
open Arith ArithC TreeF FqM FqC SockC EgM EgA EgB EgC EgD EgE EgF EgG EgH EgI EgJ EgK EgL
open SockM (Sk emitS doneS writeS loseS newS skFl skTso mayS)
section
variable {w0 w : World} {S R : Nat → Prop}
end
theorem told_same {x:Sk} {now:Int} {d:Dd} {xs:List (Int × Int)} (h:(toldF x now d xs).1≠0):(toldF x now d xs).2=x:=by
 unfold toldF at h ⊢
 split
 ·rename_i e
  rw [if_pos e] at h
  unfold writeS SockA.wrF at h ⊢
  split
  ·cases x;rfl
  ·split
   ·cases x;rfl
   ·rename_i h1 h2
    rw [if_neg h1,if_neg h2] at h
    exact absurd rfl h
 ·rename_i e
  rw [if_neg e] at h
  split
  ·rename_i e3
   rw [if_pos e3] at h
   unfold SockL.ackS at h ⊢
   split
   ·rename_i h1;rw [if_pos h1] at h;exact absurd rfl h
   ·rfl
  ·rename_i e3
   rw [if_neg e3] at h
   split
   ·rename_i e4;rw [if_pos e4] at h;exact absurd rfl h
   ·rename_i e4
    rw [if_neg e4] at h
    unfold doneS at h ⊢
    split
    ·rfl
    ·rename_i h1;rw [if_neg h1] at h;exact absurd rfl h
theorem upL_have {α:Type} {l:Nat→α} {i:Nat} {x:α} (h:l i=x):EgM.upL l i x=l:=by rw [← h];exact EgM.upL_id l i
theorem refused {v:Mc} {d:Dd} {xs:List (Int × Int)} (h:(doF v d xs).1.2≠0):(doF v d xs).2=v∧(doF v d xs).1.1=ou0:=by
 have h2:(stepM v d xs).1≠0:=by rw [← do_err];exact h
 refine ⟨?_,by unfold doF;rw [if_pos h2]⟩
 rw [do_step]
 unfold stepM at h2 ⊢
 split
 ·rename_i e
  rw [if_pos e] at h2
  have:=(move_r v.now (dA d)).2.2 h2
  show ({ v with now:=(moveF v.now (dA d)).2 }:Mc)=v
  rw [this]
 ·rename_i e
  rw [if_neg e] at h2
  split
  ·rename_i e6;rw [if_pos e6] at h2;exact absurd rfl h2
  ·rename_i e6
   rw [if_neg e6] at h2
   split
   ·rename_i e8
    rw [if_pos e8] at h2
    have h2:(setM v (dC d)).1≠0:=h2
    show (setM v (dC d)).2=v
    unfold setM setF at h2 ⊢
    by_cases hm:may (dC d)=true
    ·exfalso;apply h2;simp [hm]
    ·simp [hm]
   ·rename_i e8
    rw [if_neg e8] at h2
    split
    ·rename_i e1
     rw [if_pos e1] at h2
     unfold oneM at h2 ⊢
     split
     ·rfl
     ·rename_i hs
      rw [if_neg hs] at h2
      split
      ·rename_i hn
       rw [hn] at h2
       dsimp only at h2
       split
       ·rename_i e1;rw [if_pos e1] at h2;exact absurd rfl h2
       ·rfl
      ·rename_i x hx
       rw [hx] at h2
       dsimp only at h2
       split
       ·rfl
       ·rename_i e1
        rw [if_neg e1] at h2
        split
        ·rename_i e9;rw [if_pos e9] at h2;exact absurd rfl h2
        ·rename_i e9
         rw [if_neg e9] at h2
         split
         ·rename_i e0;rw [if_pos e0] at h2;exact absurd rfl h2
         ·rename_i e0
          show ({ v with so:=EgM.upL v.so (dS d).toNat (some (toldF x v.now d xs).2) }:Mc)=v
          rw [told_same e0,upL_have hx]
    ·rfl
def fill {α:Type} (f:Nat→α) (z:α) (y:Nat):List α:=[if 0 < y then f 0 else z,if 1 < y then f 1 else z,if 2 < y then f 2 else z,if 3 < y then f 3 else z,if 4 < y then f 4 else z,if 5 < y then f 5 else z,if 6 < y then f 6 else z,if 7 < y then f 7 else z]
abbrev fC (v:Mc) (j:Nat):Ks.T KCt:=countL v.l (j:Int)
end EgP

namespace EgQ
open Arith ArithC TreeF FqM FqC SockC EgM EgA EgB EgC EgD EgE EgF EgG EgH EgI EgJ EgK EgL
open SockM (Sk emitS doneS writeS loseS newS skFl skTso mayS)
abbrev d0:Dd:=(0,0,0,0,0,⟨none,0,0⟩,0,0,0,0,0,0,false,0,0)
abbrev pAt (ps:List OpE) (j:Nat):OpE:=ps.getD j (d0,[])
def runM (v:Mc) (ps:List OpE):Nat→Mc
 | 0=>v
 | j+1=>(doF (runM v ps j) (pAt ps j).1 (pAt ps j).2).2
def errsM (v:Mc) (ps:List OpE):Nat→List Int
 | 0=>[]
 | j+1=>errsM v ps j++[(doF (runM v ps j) (pAt ps j).1 (pAt ps j).2).1.2]
def lastO (v:Mc) (ps:List OpE):Nat→Ou
 | 0=>ou0
 | j+1=>(doF (runM v ps j) (pAt ps j).1 (pAt ps j).2).1.1
def lastR (rows:List (Ks.T KOu)) (o:Ou):SP:=match rows.getLast? with
 | none=>emp
 | some r=>outR r o
instance (rows:List (Ks.T KOu)) (o:Ou):NoR (lastR rows o):=by unfold lastR;split<;>infer_instance
theorem lastR_app (rows:List (Ks.T KOu)) (r:Ks.T KOu) (o:Ou):lastR (rows++[r]) o=outR r o:=by
 unfold lastR
 rw [List.getLast?_concat]
theorem errs_len (v:Mc) (ps:List OpE):∀ j,(errsM v ps j).length=j
 | 0=>rfl
 | j+1=>by show (errsM v ps j++[_]).length=_;rw [List.length_append,errs_len v ps j];rfl
theorem runM_ok {c:Cf} (hc:OkC c) {ps:List OpE} (hd:∀ p∈ps,OkD p.1):∀ j:Nat,j≤1000→j≤ps.length→OkMc (j:Int) (runM (newM c) ps j)
 | 0,_,_=>new_ok hc
 | j+1,h1,h2=>by
  have hj:pAt ps j=ps[j]:=by unfold pAt;rw [List.getD_eq_getElem?_getD,List.getElem?_eq_getElem (by omega)];rfl
  have:=do_ok (runM_ok hc hd j (by omega) (by omega)) (by omega) (hd (pAt ps j) (by rw [hj];exact List.getElem_mem _)) (pAt ps j).2
  rw [show (j:Int)+1=((j+1:Nat):Int) by omega] at this
  exact this
theorem run_tri (c:Cf) (hm:may c=true) (hc:OkC c) (s:Sl) (ps:List OpE) (hl:ps.length≤1000) (hd:∀ p∈ps,OkD p.1) (hx:∀ p∈ps,p.2.length≤4294967296):Tri Tryz.prog N_script_Run [.agg (Ks.mk KC c),.lf (.sl s)] [.lf .sl,.lf .sl] (emp^opsE s ps)
  (fun r=>ex fun rows:List (Ks.T KOu)=>pur (rows.length=ps.length) (arr r.1 KOu rows^arr r.2 KI (errsM (newM c) ps ps.length)^lastR rows (lastO (newM c) ps ps.length))) :=
 tri_0 (call_script_Run c s) fun w0 S R h=>by
  unfold W_script_Run
  have hsl:=(h.rd (s:=s)).2
  rw [List.length_map] at hsl
  refine w_new h fun n1 w h=>w_ldAll (b:=n1) (x:=c) h rfl (w_call (EgE.new_tri c) (h.le ((star_emp _).trans (star_comm _ _))) fun r w h=>?_)
  obtain ⟨b,h⟩:=h.exP
  obtain ⟨hr,h⟩:=h.purP
  rw [if_pos hm] at hr h
  rw [hr]
  refine w_ite (fun c=>(by cases c)) fun _=>?_
  have h:=h.nil KOu
  have h:=h.nil KI
  have h:Own w0 S R w (mach b (runM (newM c) ps (0:Int).toNat)^arr ⟨none,0,0⟩ KOu []^arr ⟨none,0,0⟩ KI (errsM (newM c) ps (0:Int).toNat)^lastR [] (lastO (newM c) ps (0:Int).toNat)^opsE s ps):=Own.fin (A:=mach b (newM c)^arr ⟨none,0,0⟩ KOu []^arr ⟨none,0,0⟩ KI []^emp^opsE s ps) h
  refine w_loopE (fun (y:Sl × Sl × Int) (rows:List (Ks.T KOu))=>mach b (runM (newM c) ps y.2.2.toNat)^arr y.1 KOu rows^arr y.2.1 KI (errsM (newM c) ps y.2.2.toNat)^lastR rows (lastO (newM c) ps y.2.2.toNat)^opsE s ps) (fun (y:Sl × Sl × Int) rows=>(0≤y.2.2∧y.2.2≤ps.length)∧rows.length=y.2.2.toNat) (fun (y:Sl × Sl × Int) _=>((ps.length:Int) - y.2.2).toNat) [] h ⟨⟨Int.le_refl 0,by show (0:Int)≤_;omega⟩,rfl⟩ ?_
  rintro K (y:Sl × Sl × Int) rows w ⟨hyr,hrl⟩ h next
  obtain ⟨y1,y2,y3⟩:=y
  dsimp only at hyr hrl h next ⊢
  refine w_ite (fun c0=>?_) fun c0=>?_
  ·have c0:y3 < ((s.len:Nat):Int):=of_decide_eq_true c0
   have hlt:y3.toNat < ps.length:=by omega
   obtain ⟨p,hpi⟩:∃ p,ps[y3.toNat]?=some p:=⟨_,List.getElem?_eq_getElem hlt⟩
   have hpa:pAt ps y3.toNat=p:=by unfold pAt;rw [List.getD_eq_getElem?_getD,hpi];rfl
   have hdm:(ps.map Prod.fst)[y3.toNat]?=some p.1:=by rw [List.getElem?_map,hpi];rfl
   have hdl:y3.toNat < (ps.map Prod.fst).length:=by rw [List.length_map];exact hlt
   have hmem:=List.mem_of_getElem? hpi
   refine w_idx (s:=s) h hyr.1 hdl (w_ldE h s y3.toNat hdm rfl ?_)
   refine w_new h fun n9 w h=>w_setTo h n9 (Ks.mk KD p.1) rfl rfl rfl fun w h=>w_ldAll (b:=n9) (x:=p.1) h rfl ?_
   haveI:=rd_dR hpi
   have hv:=runM_ok hc hd y3.toNat (by omega) (by omega)
   have h:Own w0 S R w (mach b (runM (newM c) ps y3.toNat)^(arr y1 KOu rows^arr y2 KI (errsM (newM c) ps y3.toNat))^opsE s ps):=h.fin
   refine w_callL (A:=mach b (runM (newM c) ps y3.toNat)) (Q:=rarr (dR p.1) KR p.2) (do_tri b _ _ hv (by omega) p.1 (hd p hmem) p.2 (hx p hmem)) h fun r w h=>?_
   obtain ⟨hre,h⟩:=h.purP
   obtain ⟨ro,re⟩:=r
   dsimp only at hre h ⊢
   rw [← hpa] at hre h
   have h:Own w0 S R w (outR ro (lastO (newM c) ps (y3.toNat+1))^mach b (runM (newM c) ps (y3.toNat+1))^arr y1 KOu rows^arr y2 KI (errsM (newM c) ps y3.toNat)^opsE s ps):=Own.fin (A:=outR ro (doF (runM (newM c) ps y3.toNat) (pAt ps y3.toNat).1 (pAt ps y3.toNat).2).1.1^mach b (doF (runM (newM c) ps y3.toNat) (pAt ps y3.toNat).1 (pAt ps y3.toNat).2).2^arr y1 KOu rows^arr y2 KI (errsM (newM c) ps y3.toNat)^opsE s ps) h
   refine w_new h fun n12 w h=>w_setTo h n12 (Ks.mk KOu ro) rfl rfl rfl fun w h=>w_ldAll (b:=n12) (x:=ro) h rfl ?_
   refine w_new h fun n14 w h=>?_
   have h:=h.blkArr n14 KOu [ro] rfl (by simp)
   have h:Own w0 S R w (arr ⟨some ⟨n14,0⟩,1,1⟩ KOu [ro]^_):=h
   have h:Own w0 S R w (arr y1 KOu rows^arr ⟨some ⟨n14,0⟩,1,1⟩ KOu [ro]^outR ro (lastO (newM c) ps (y3.toNat+1))^mach b (runM (newM c) ps (y3.toNat+1))^arr y2 KI (errsM (newM c) ps y3.toNat)^opsE s ps):=h.fin
   refine w_app (s:=y1) (x:=⟨some ⟨n14,0⟩,1,1⟩) h rfl (by rw [hrl];show _+1≤_;omega) fun s15 w _ h=>?_
   refine w_new h fun n16 w h=>?_
   have h:=h.blkArr n16 KI [re] rfl (by simp)
   have h:Own w0 S R w (arr ⟨some ⟨n16,0⟩,1,1⟩ KI [re]^_):=h
   have h:Own w0 S R w (arr y2 KI (errsM (newM c) ps y3.toNat)^arr ⟨some ⟨n16,0⟩,1,1⟩ KI [re]^arr s15 KOu (rows++[ro])^outR ro (lastO (newM c) ps (y3.toNat+1))^mach b (runM (newM c) ps (y3.toNat+1))^opsE s ps):=h.fin
   refine w_app (s:=y2) (x:=⟨some ⟨n16,0⟩,1,1⟩) h rfl (by rw [errs_len];show _+1≤_;omega) fun s17 w _ h=>?_
   have hwi:IntKind.i64.wrap (y3+1)=y3+1:=wi (by omega) (by omega)
   have he:errsM (newM c) ps y3.toNat++[re]=errsM (newM c) ps (y3.toNat+1):=by rw [hre];rfl
   have h1:(y3+1).toNat=y3.toNat+1:=by omega
   rw [hwi]
   rw [he,← lastR_app rows ro] at h
   refine next (s15,s17,y3+1) (rows++[ro]) w ⟨⟨by show 0≤y3+1;omega,by show y3+1≤_;omega⟩,by show _=(y3+1).toNat;rw [List.length_append,hrl,h1];rfl⟩ ?_ (by show ((ps.length:Int) - (y3+1)).toNat < ((ps.length:Int) - y3).toNat;omega)
   show Own w0 S R w (mach b (runM (newM c) ps (y3+1).toNat)^arr s15 KOu (rows++[ro])^arr s17 KI (errsM (newM c) ps (y3+1).toNat)^lastR (rows++[ro]) (lastO (newM c) ps (y3+1).toNat)^opsE s ps)
   rw [h1]
   exact h.fin
  ·have c0:¬ y3 < ((s.len:Nat):Int):=of_decide_eq_false c0
   have e:y3.toNat=ps.length:=by omega
   rw [e] at h hrl
   exact Own.retE rows (Own.retP hrl h.fin)
abbrev awP:List OpE:=[(dOpen 0,[]),(dSend 0 500,[]),(dPull,[])]
theorem aw_eq:errsM (newM FqH.plainC) awP 3=[0,0,0]∧(lastO (newM FqH.plainC) awP 3).dep=[(0,0,500,0,false)]:=by decide +kernel
theorem tawake_tri:Tri Tryz.prog N_cantertop_awake [] [.lf .bool] emp (fun r=>pur (r=true) emp) :=
 tri_0 call_cantertop_awake fun w0 S R h=>by
  unfold W_cantertop_awake
  obtain ⟨h1,h2⟩:=aw_eq
  refine w_call FqH.plain_tri (h.le (star_emp _)) fun r w h=>?_
  obtain ⟨hr,h⟩:=h.purP;rw [hr]
  refine w_new h fun n2 w h=>?_
  have h:=h.blkArr n2 KD [dOpen 0,dSend 0 500,dPull] rfl (by simp)
  have h:Own w0 S R w (arr ⟨some ⟨n2,0⟩,3,3⟩ KD [dOpen 0,dSend 0 500,dPull]^emp):=h.fin
  refine w_callL (A:=emp) (Q:=rarr ⟨some ⟨n2,0⟩,3,3⟩ KD [dOpen 0,dSend 0 500,dPull]^rarr ⟨none,0,0⟩ KR []^rarr ⟨none,0,0⟩ KR []^rarr ⟨none,0,0⟩ KR []^emp) (run_tri FqH.plainC FqH.plain_may FqH.plain_ok ⟨some ⟨n2,0⟩,3,3⟩ awP (by decide) (by
   simp only [List.mem_cons,List.not_mem_nil,or_false]
   rintro p (rfl | rfl | rfl)
   ·exact dOpen_ok 0
   ·exact dSend_ok 0 500 (by decide)
   ·exact dPull_ok) (by
   simp only [List.mem_cons,List.not_mem_nil,or_false]
   rintro p (rfl | rfl | rfl)<;>exact Nat.zero_le _)) (h.le ((star_emp _).trans (star_comm _ _))) fun r w h=>?_
  obtain ⟨rows,h⟩:=h.exP
  obtain ⟨hl,h⟩:=h.purP
  obtain ⟨r1,r2⟩:=r
  have hl:rows.length=3:=hl
  obtain ⟨a,b,c,hrows⟩:∃ a b c,rows=[a,b,c]:=by
   match rows,hl with
   | [a,b,c],_=>exact ⟨a,b,c,rfl⟩
  rw [hrows] at h
  have h:Own w0 S R w (outR c (lastO (newM FqH.plainC) awP 3)^arr r1 KOu [a,b,c]^arr r2 KI (errsM (newM FqH.plainC) awP 3)^emp):=Own.fin (A:=outR c (lastO (newM FqH.plainC) awP 3)^arr r1 KOu [a,b,c]^arr r2 KI (errsM (newM FqH.plainC) awP 3)^emp) (F:=(arr r1 KOu [a,b,c]^arr r2 KI (errsM (newM FqH.plainC) awP 3)^outR c (lastO (newM FqH.plainC) awP 3))^_) h
  obtain ⟨c1,c2,c3,c4⟩:=c
  obtain ⟨_,h⟩:=h.outR (c1,c2,c3,c4)
  dsimp only at h
  rw [h1,h2] at h
  have l1:=(h.rd (s:=r1)).2
  have l2:=(h.rd (s:=r2)).2
  have l3:=(h.rd (s:=c1)).2
  dsimp only
  refine w_ite (fun _=>?_) fun c=>(by rw [l1,l2] at c;cases c)
  refine w_idx (s:=r2) h (by decide) (by show 2 < 3;decide) (w_ldE h r2 2 (y:=(0:Int)) rfl rfl (w_ite (fun _=>?_) fun c=>(by cases c)))
  refine w_idx (s:=r1) h (by decide) (by show 2 < 3;decide) (w_ldA h r1 2 0 ((c1,c2,c3,c4):Ks.T KOu) rfl rfl (by decide) (x:=c1) rfl (w_ite (fun _=>?_) fun c=>(by rw [l3] at c;cases c)))
  refine w_idx (s:=r1) h (by decide) (by show 2 < 3;decide) (w_ldA h r1 2 0 ((c1,c2,c3,c4):Ks.T KOu) rfl rfl (by decide) (x:=c1) rfl ?_)
  refine w_idx (s:=c1) h (by decide) (by show 0 < 1;decide) (w_ldA h c1 0 2 ((0,0,500,0,false):Sg) rfl rfl (by decide) (x:=(500:Int)) rfl ?_)
  exact Own.retP rfl h.emp'
end EgQ

end Go.X
