/- Contracts and plain facts: EgF EgG EgH EgJ EgK EgL EgO EgP EgQ EgW EgY EgZa EgZb EgZc EgZd EgZe. -/
import Derived.Test.YtaimlgfepkopkaaGreatB0
import Derived.Test.YtaimlgfepkopkaaGreatB1
import Derived.Test.YtaimlgfepkopkaaGreatB2
import Derived.Test.YtaimlgfepkopkaaGreatB3
import Derived.Test.YtaimlgfepkopkaaGreatB4
import Derived.Test.YtaimlgfepkopkaaGreatB5
import Derived.Test.YtaimlgfepkopkaaGreatB6
import Derived.Test.YtaimlgfepkopkaaGreatB7
import Derived.Test.YtaimlgfepkopkaaGreatB8
import Derived.Test.YtaimlgfepkopkaaGreatK
import Derived.Test.YtaimlgfepkopkaaGreatF0
import Derived.Test.YtaimlgfepkopkaaGreatF1
import Derived.Test.YtaimlgfepkopkaaGreatF2
set_option linter.unusedVariables false
set_option linter.unusedSimpArgs false
set_option linter.unusedSectionVars false
namespace Go.X
open Go.Proofs
namespace EgF
open Arith ArithC TreeF FqM FqC SockC EgM EgA EgB EgC EgD EgE
open SockM (Sk emitS doneS writeS loseS newS skFl skTso mayS)
open SockO (IvS)
open SockV (IvB)
theorem upL_upL {α:Type} (l:Nat→α) (i:Nat) (x y:α):upL (upL l i x) i y=upL l i y:=funext fun j=>by unfold upL;split<;>rfl
theorem ivB_le {k j:Int} {v:Sk} (h:IvB k v) (hj:k≤j) (hj2:j≤1000000):IvB j v :=
 { i:=h.i.le hj,kr:=by have:=h.kr;omega,g:=h.g,b:=SockV.Bd_le h.b (by omega) }
theorem OkMc_le {k j:Int} {v:Mc} (h:OkMc k v) (hj:k≤j) (hj2:j≤1000000):OkMc j v :=
 { c:=h.c,now:=h.now,q:=h.q,so:=fun i x hx=>⟨ivB_le (h.so i x hx).1 hj hj2,(h.so i x hx).2⟩,kr:=by have:=h.kr;omega }
theorem told_ok {k:Int} {x:Sk} (hx:IvB k x) (hk:k < 1000000) {now:Int} (hn:U now) (d:Dd) (xs:List (Int × Int)):IvB (k+1) (toldF x now d xs).2∧(toldF x now d xs).2.id=x.id:=by
 unfold toldF
 split
 ·exact ⟨hx.write hk _,rfl⟩
 ·split
  ·exact ⟨hx.ack hk hn _ _,by unfold SockL.ackS;split<;>rfl⟩
  ·split
   ·exact ⟨hx.lose hk hn,rfl⟩
   ·exact ⟨hx.done hk _,by unfold doneS;split<;>rfl⟩
theorem upS_ok {k:Int} {v:Mc} (hv:OkMc k v) {i:Nat} (hi:i < 8) {x:Sk} (hx:IvB k x) (hid:x.id=(i:Int)):OkMc k { v with so:=upL v.so i (some x) }:=by
 have hso:∀ j y,upL v.so i (some x) j=some y→IvB k y∧y.id=(j:Int)∧j < 8:=fun j y hy=>by
  by_cases e:j=i
  ·subst e
   rw [upL_same] at hy
   cases hy;exact ⟨hx,hid,hi⟩
  ·rw [upL_ne _ _ e] at hy;exact hv.so j y hy
 exact { hv with so:=hso }
theorem upN_ok {k:Int} {v:Mc} (hv:OkMc k v) (i:Nat):OkMc k { v with so:=upL v.so i none }:=by
 have hso:∀ j y,upL v.so i none j=some y→IvB k y∧y.id=(j:Int)∧j < 8:=fun j y hy=>by
  by_cases e:j=i
  ·subst e
   rw [upL_same] at hy;cases hy
  ·rw [upL_ne _ _ e] at hy;exact hv.so j y hy
 exact { hv with so:=hso }
theorem one_tri (b a:Nat) (k:Int) (v:Mc) (hv:OkMc k v) (hk:k < 1000000) (d:Dd) (hd:OkD d) (xs:List (Ks.T KR)) (hxl:xs.length≤4294967296) (o:Ou) (hl:o.dr.length≤400∧o.ft.length≤400) :
  Tri Tryz.prog N_egress_Machine_one [.lf (.ptr (some ⟨b,0⟩)),.agg (Ks.mk KD d),.lf (.ptr (some ⟨a,0⟩))] [.lf (.int .i64)] ((mach b v^outp a o)^rarr (dR d) KR xs) (fun r=>pur (r=(oneM v d xs o).1) (mach b (oneM v d xs o).2.2^outp a (oneM v d xs o).2.1)) :=
 tri_0 (call_egress_Machine_one (some ⟨b,0⟩) d (some ⟨a,0⟩)) fun w0 S R h=>by
  unfold W_egress_Machine_one
  refine w_new (h.le (star_emp _)) fun n1 w h=>w_ld (x:=dS d) h rfl (w_call (is_tri (dS d)) (h.le ((star_emp _).trans (star_comm _ _))) fun r w h=>?_)
  obtain ⟨hr,h⟩:=h.purP;rw [hr]
  have h:Own w0 S R w (blk n1 (Ks.mk KD d)^mach b v^outp a o^rarr (dR d) KR xs^emp):=h.fin
  refine w_ite (fun c=>?_) fun c=>?_
  ·have c:¬ (0≤dS d∧dS d < 8):=fun hh=>by rw [decide_eq_true hh] at c;cases c
   rw [show oneM v d xs o=(8,o,v) by unfold oneM;rw [if_pos c]]
   exact Own.retP rfl h.fin
  have c:0≤dS d∧dS d < 8:=by
   by_cases hh:0≤dS d∧dS d < 8
   ·exact hh
   ·rw [decide_eq_false hh] at c;cases c
  obtain ⟨i,hi⟩:∃ i:Nat,dS d=(i:Int):=⟨(dS d).toNat,by omega⟩
  have hi8:i < 8:=by omega
  have eit:((i:Nat):Int).toNat=i:=Int.toNat_natCast i
  have hone:oneM v d xs o=match v.so i with
    | none=>if dK d=1 then (0,o,{ v with so:=upL v.so i (some (newS (i:Int) (cMss v.c) (cCap v.c))) }) else (10,o,v)
    | some x=>if dK d=1 then (9,o,v) else if dK d=9 then (0,(shutM v i o).1,(shutM v i o).2)
     else if (toldF x v.now d xs).1=0 then (0,(pumpM v i (toldF x v.now d xs).2 o).1,(pumpM v i (toldF x v.now d xs).2 o).2)
     else ((toldF x v.now d xs).1,o,{ v with so:=upL v.so i (some (toldF x v.now d xs).2) }):=by
   unfold oneM
   first
    | (rw [if_neg (fun hh=>hh c),hi,eit];cases v.so i<;>rfl)
    | rw [if_neg (fun hh=>hh c),hi,eit]
  obtain ⟨p,ck,q,l,h⟩:=h.mach b
  have hsn:=isNK h p v.so hi8
  have hat:Ks.un [.ptr] (((mL v.c ck p q l).drop (0+10+(dS d).toNat * 1)).take 1)=some (p i):=by rw [hi,eit,mL_at v.c ck p q l i hi8]
  refine w_drw h fun w h=>w_ld (x:=dS d) h rfl (w_deref ⟨c,w_ld h hat (w_ld (x:=dK d) h rfl ?_)⟩)
  cases hs:v.so i with
  | none =>
   rw [hs] at hsn hone
   have hpn:p i=none:=by simpa using hsn
   rw [hpn]
   refine w_ite (fun cc=>(by simp at cc)) fun _=>w_ld (x:=dK d) h rfl (w_ite (fun c1=>?_) fun c1=>?_)
   ·have c1:dK d=1:=by simpa using c1
    dsimp only at hone
    rw [if_pos c1] at hone
    rw [hone]
    refine w_drw h fun w h=>w_ld (x:=dS d) h rfl (w_ld (x:=dS d) h rfl (w_deref (w_deref (w_ld (x:=v.c) h rfl ?_))))
    rw [hi]
    refine w_call (SockK.snew_tri (i:Int) v.c) (h.le ((star_emp _).trans (star_comm _ _))) fun r w h=>?_
    obtain ⟨ap,h⟩:=h.exP
    obtain ⟨hr,h⟩:=h.purP;rw [hr]
    have h:Own w0 S R w (sck ap (newS (i:Int) (cMss v.c) (cCap v.c))^blk n1 (Ks.mk KD d)^(blk b (mL v.c ck p q l)^blk ck [.int .u64 v.now]^que q v.q^led l v.l^AllK p v.so)^outp a o^emp):=h.fin
    refine w_chk h (by show [Lf.int IntKind.i64 (dS d)]=_;rw [hi];rfl) ⟨by omega,?_⟩
    rw [eit]
    obtain ⟨_,h⟩:=h.noK p v.so hi8 hs
    refine w_setTo h b (mL v.c ck (upP p i (some ⟨ap,0⟩)) q l) rfl (by rcases lt8 hi8 with rfl | rfl | rfl | rfl | rfl | rfl | rfl | rfl<;>rfl) (mL_up v.c ck p q l i hi8 (some ⟨ap,0⟩)) fun w h=>?_
    have h:=h.inK p v.so hi8 (upP p i (some ⟨ap,0⟩)) (upL v.so i (some (newS (i:Int) (cMss v.c) (cCap v.c)))) ap (newS (i:Int) (cMss v.c) (cCap v.c)) (fun j hj=>upP_ne p _ hj) (fun j hj=>upL_ne v.so _ hj) (upP_same p i _) (upL_same v.so i _)
    have h:=h.mkMach b (upP p i (some ⟨ap,0⟩)) ck q l { v with so:=upL v.so i (some (newS (i:Int) (cMss v.c) (cCap v.c))) }
    exact Own.retP rfl h.fin
   ·have c1:¬ dK d=1:=by simpa using c1
    dsimp only at hone
    rw [if_neg c1] at hone
    rw [hone]
    refine w_ite (fun _=>?_) fun cc=>(by simp at cc)
    have h:=h.mkMach b p ck q l v
    exact Own.retP rfl h.fin
  | some x =>
   obtain ⟨hx,hid,_⟩:=hv.so i x hs
   rw [hs] at hsn hone
   obtain ⟨ap,hp,h⟩:=h.outK p v.so hi8 hs
   rw [hp]
   refine w_ite (fun c1=>?_) fun c1=>?_
   ·have c1:dK d=1:=by simpa using c1
    dsimp only at hone
    rw [if_pos c1] at hone
    rw [hone]
    have h:=h.inK p v.so hi8 p v.so ap x (fun _ _=>rfl) (fun _ _=>rfl) hp hs
    have h:=h.mkMach b p ck q l v
    exact Own.retP rfl h.fin
   have c1:¬ dK d=1:=by simpa using c1
   dsimp only at hone
   rw [if_neg c1] at hone
   refine w_ld (x:=dK d) h rfl (w_ite (fun cc=>(by simp at cc;exact absurd cc c1)) fun _=>w_ite (fun cc=>(by simp at cc)) fun _=>w_ld (x:=dK d) h rfl (w_ite (fun c9=>?_) fun c9=>?_))
   ·have c9:dK d=9:=by simpa using c9
    rw [if_pos c9] at hone
    rw [hone]
    have h:=h.inK p v.so hi8 p v.so ap x (fun _ _=>rfl) (fun _ _=>rfl) hp hs
    have h:=h.mkMach b p ck q l v
    refine w_ld (x:=dS d) h rfl ?_
    rw [hi]
    refine w_call (shut_tri b a k v hv i hi8 o hl) h fun _ w h=>?_
    exact Own.retP rfl h.fin
   have c9:¬ dK d=9:=by simpa using c9
   rw [if_neg c9] at hone
   refine w_drw h fun w h=>w_ldAll (b:=n1) (x:=d) h rfl (w_call (mnowO_tri b v.c p ck q l v.now) h fun r w h=>?_)
   obtain ⟨hr,h⟩:=h.purP;rw [hr]
   refine w_chkAll (b:=n1) h ?_
   refine w_callL (A:=sck ap x) (Q:=rarr (dR d) KR xs) (told_tri ap k x hx v.now hv.un d hd xs hxl) h fun r w h=>?_
   obtain ⟨hr,h⟩:=h.purP;rw [hr]
   obtain ⟨hx2,hid2⟩:=told_ok hx hk hv.un d xs
   have h:=h.inK p v.so hi8 p (upL v.so i (some (toldF x v.now d xs).2)) ap (toldF x v.now d xs).2 (fun _ _=>rfl) (fun j hj=>upL_ne v.so _ hj) hp (upL_same v.so i _)
   have h:=h.mkMach b p ck q l { v with so:=upL v.so i (some (toldF x v.now d xs).2) }
   have hv2:OkMc (k+1) { v with so:=upL v.so i (some (toldF x v.now d xs).2) }:=upS_ok (OkMc_le hv (by omega) (by omega)) hi8 hx2 (hid2.trans hid)
   refine w_ite (fun c0=>?_) fun c0=>?_
   ·have c0:(toldF x v.now d xs).1=0:=by simpa using c0
    rw [if_pos c0] at hone
    rw [hone]
    refine w_ld (x:=dS d) h rfl ?_
    rw [hi]
    refine w_call (pump_tri b a (k+1) { v with so:=upL v.so i (some (toldF x v.now d xs).2) } hv2 i (toldF x v.now d xs).2 (upL_same v.so i _) o (by omega)) h fun _ w h=>?_
    have e:pumpM { v with so:=upL v.so i (some (toldF x v.now d xs).2) } i (toldF x v.now d xs).2 o=pumpM v i (toldF x v.now d xs).2 o:=by
     unfold pumpM
     dsimp only
     rw [upL_upL]
    rw [e] at h
    exact Own.retP c0 h.fin
   ·have c0:¬ (toldF x v.now d xs).1=0:=by simpa using c0
    rw [if_neg c0] at hone
    rw [hone]
    exact Own.retP rfl h.fin
abbrev KOu:Ks:=[.sl,.sl,.sl,.int .u64]
def outR (r:Ks.T KOu) (o:Ou):SP:=pur (r.2.2.2=o.wd) (arr r.1 KS o.dep^arr r.2.1 KS o.dr^arr r.2.2.1 KI o.ft)
instance (r:Ks.T KOu) (o:Ou):NoR (outR r o):=by unfold outR;infer_instance
theorem do_tri (b:Nat) (k:Int) (v:Mc) (hv:OkMc k v) (hk:k < 1000000) (d:Dd) (hd:OkD d) (xs:List (Ks.T KR)) (hxl:xs.length≤4294967296) :
  Tri Tryz.prog N_egress_Machine_Do [.lf (.ptr (some ⟨b,0⟩)),.agg (Ks.mk KD d)] [.agg KOu,.lf (.int .i64)] (mach b v^rarr (dR d) KR xs) (fun r=>pur (r.2=(doF v d xs).1.2) (mach b (doF v d xs).2^outR r.1 (doF v d xs).1.1)) :=
 tri_0 (call_egress_Machine_Do (some ⟨b,0⟩) d) fun w0 S R h=>by
  unfold W_egress_Machine_Do
  refine w_new (h.le (star_emp _)) fun n1 w h=>w_new h fun n2 w h=>w_ite (fun c=>(by simp at c)) fun _=>w_new h fun n4 w h=>?_
  have h:=h.nil KS
  have h:=h.nil KS
  have h:=h.nil KI
  have h:=h.mkOutp n4 ⟨none,0,0⟩ ⟨none,0,0⟩ ⟨none,0,0⟩ ou0
  have h:Own w0 S R w (blk n1 (Ks.mk KD d)^outp n4 ou0^mach b v^rarr (dR d) KR xs^blk n2 [.sl ⟨none,0,0⟩,.sl ⟨none,0,0⟩,.sl ⟨none,0,0⟩,.int .u64 0]^emp):=h.fin
  refine w_join h (fun _=>outp n4 (stepM v d xs).2.1^mach b (stepM v d xs).2.2^blk n2 [.sl ⟨none,0,0⟩,.sl ⟨none,0,0⟩,.sl ⟨none,0,0⟩,.int .u64 0]^emp) (fun y:Int=>y=(stepM v d xs).1) (fun (y:Int) w hy h=>?_) ?_
  ·rw [hy]
   refine w_ite (fun c=>?_) fun c=>?_
   ·have c:(stepM v d xs).1≠0:=by simpa using c
    rw [show doF v d xs=((ou0,(stepM v d xs).1),(stepM v d xs).2.2) by unfold doF;rw [if_pos c]]
    refine w_setAll h (by rfl) fun w h=>w_ldAll (b:=n2) (x:=((⟨none,0,0⟩,⟨none,0,0⟩,⟨none,0,0⟩,0):Ks.T KOu)) h rfl ?_
    have h:=h.nil KS
    have h:=h.nil KS
    have h:=h.nil KI
    have h:Own w0 S R w (outR (⟨none,0,0⟩,⟨none,0,0⟩,⟨none,0,0⟩,0) ou0^mach b (stepM v d xs).2.2^emp):=Own.toPur (p:=((⟨none,0,0⟩,⟨none,0,0⟩,⟨none,0,0⟩,0):Ks.T KOu).2.2.2=ou0.wd) (A:=arr ⟨none,0,0⟩ KS []^arr ⟨none,0,0⟩ KS []^arr ⟨none,0,0⟩ KI []) rfl h.fin
    exact Own.retP rfl h.fin
   ·have c:(stepM v d xs).1=0:=by simpa using c
    rw [show doF v d xs=(((stepM v d xs).2.1,0),(stepM v d xs).2.2) by unfold doF;rw [if_neg (fun x=>x c)]]
    obtain ⟨s1,s2,s3,h⟩:=h.outp n4
    refine w_ldAll (b:=n4) (x:=((s1,s2,s3,(stepM v d xs).2.1.wd):Ks.T KOu)) h rfl (w_setAll h (by rfl) fun w h=>w_ldAll (b:=n2) (x:=((s1,s2,s3,(stepM v d xs).2.1.wd):Ks.T KOu)) h rfl ?_)
    have h:Own w0 S R w (outR (s1,s2,s3,(stepM v d xs).2.1.wd) (stepM v d xs).2.1^mach b (stepM v d xs).2.2^emp):=Own.toPur (p:=((s1,s2,s3,(stepM v d xs).2.1.wd):Ks.T KOu).2.2.2=(stepM v d xs).2.1.wd) (A:=arr s1 KS (stepM v d xs).2.1.dep^arr s2 KS (stepM v d xs).2.1.dr^arr s3 KI (stepM v d xs).2.1.ft) rfl h.fin
    exact Own.retP rfl h.fin
  ·refine w_ld (x:=dK d) h rfl (w_ite (fun c5=>?_) fun c5=>?_)
   ·have c5:dK d=5:=by simpa using c5
    rw [show stepM v d xs=((moveF v.now (dA d)).1,ou0,{ v with now:=(moveF v.now (dA d)).2 }) by unfold stepM;rw [if_pos c5]]
    obtain ⟨p,ck,q,l,h⟩:=h.mach b
    refine w_drw h fun w h=>w_deref (w_ld (x:=dA d) h rfl (w_ld (x:=some ⟨ck,0⟩) h rfl (w_call (move_tri ck v.now (dA d)) h fun r w h=>?_)))
    obtain ⟨hr,h⟩:=h.purP;rw [hr]
    have h:=h.mkMach b p ck q l { v with now:=(moveF v.now (dA d)).2 }
    exact ⟨rfl,h.fin⟩
   have c5:¬ dK d=5:=by simpa using c5
   refine w_ite (fun c6=>?_) fun c6=>?_
   ·have c6:dK d=6:=by simpa using c6
    rw [show stepM v d xs=(0,(pullF v ou0).1,(pullF v ou0).2) by unfold stepM;rw [if_neg c5,if_pos c6]]
    refine w_call (pull_tri b n4 k v hv ou0) h fun _ w h=>?_
    exact ⟨rfl,h.fin⟩
   have c6:¬ dK d=6:=by simpa using c6
   refine w_ite (fun c8=>?_) fun c8=>?_
   ·have c8:dK d=8:=by simpa using c8
    rw [show stepM v d xs=((setM v (dC d)).1,ou0,(setM v (dC d)).2) by unfold stepM;rw [if_neg c5,if_neg c6,if_pos c8]]
    refine w_ld (x:=dC d) h rfl (w_call (set_tri b v (dC d)) h fun r w h=>?_)
    obtain ⟨hr,h⟩:=h.purP;rw [hr]
    exact ⟨rfl,h.fin⟩
   have c8:¬ dK d=8:=by simpa using c8
   have estep:stepM v d xs=if isOne (dK d) then oneM v d xs ou0 else (12,ou0,v):=by unfold stepM;rw [if_neg c5,if_neg c6,if_neg c8]
   refine w_join h (fun _=>blk n1 (Ks.mk KD d)^outp n4 ou0^mach b v^rarr (dR d) KR xs^blk n2 [.sl ⟨none,0,0⟩,.sl ⟨none,0,0⟩,.sl ⟨none,0,0⟩,.int .u64 0]^emp) (fun y:Bool=>y=isOne (dK d)) (fun (y:Bool) w hy h=>?_) ?_
   ·rw [hy]
    refine w_ite (fun c=>?_) fun c=>?_
    ·rw [if_pos c] at estep
     rw [estep]
     refine w_ldAll (b:=n1) (x:=d) h rfl ?_
     refine w_callL (A:=mach b v^outp n4 ou0) (Q:=rarr (dR d) KR xs) (one_tri b n4 k v hv hk d hd xs hxl ou0 ⟨by show (0:Nat)≤400;decide,by show (0:Nat)≤400;decide⟩) h fun r w h=>?_
     obtain ⟨hr,h⟩:=h.purP;rw [hr]
     exact ⟨rfl,h.fin⟩
    ·rw [if_neg (by rw [c];simp)] at estep
     rw [estep]
     exact ⟨rfl,h.fin⟩
   ·unfold isOne
    refine w_ite (fun c=>⟨by rw [c];rfl,h⟩) fun d1=>?_
    refine w_ite (fun c=>⟨by rw [d1,c];rfl,h⟩) fun d2=>?_
    refine w_ite (fun c=>⟨by rw [d1,d2,c];rfl,h⟩) fun d3=>?_
    refine w_ite (fun c=>⟨by rw [d1,d2,d3,c];rfl,h⟩) fun d4=>?_
    refine w_ite (fun c=>⟨by rw [d1,d2,d3,d4,c];rfl,h⟩) fun d5=>?_
    exact ⟨by rw [d1,d2,d3,d4,d5];rfl,h⟩
end EgF

namespace EgG
open Arith ArithC FqM EgM
abbrev KR:Ks:=[.int .u64,.int .u64]
abbrev OpE:=Dd × List (Ks.T KR)
abbrev opsE (s:Sl) (ps:List OpE):SP:=rarr s KD (ps.map Prod.fst)^rl (fun p:OpE=>rarr (dR p.1) KR p.2) ps
theorem rd_dR {ps:List OpE} {i:Nat} {o:OpE} (h:ps[i]?=some o):Rd (dR o.1) (rl (fun p:OpE=>rarr (dR p.1) KR p.2) ps) KR o.2:=rd_rl h (rd_rarr _ _ _)
end EgG

namespace EgH
open Arith ArithC TreeF FqM FqC SockC EgM EgA EgB EgC EgD EgE EgF
open SockM (Sk emitS doneS writeS loseS newS skFl skTso mayS)
open SockO (IvS)
open SockV (IvB)
theorem pump_ok {k:Int} {v:Mc} (hv:OkMc k v) {i:Nat} (hi:i < 8) {x:Sk} (hx:IvB k x) (hid:x.id=(i:Int)) (o:Ou):OkMc k (pumpM v i x o).2:=by
 have h:=pumpN_ok hv.un (fresh x+1) ⟨x,v.q,v.l,o⟩ (⟨hx,hid,hv.q⟩:OkPm k i ⟨x,v.q,v.l,o⟩)
 have h2:=upS_ok hv hi (x:=(pumpF i v.now ⟨x,v.q,v.l,o⟩).v) h.v h.id
 exact { h2 with q:=h.q }
theorem shut_ok {k:Int} {v:Mc} (hv:OkMc k v) (i:Nat) (o:Ou):OkMc k (shutM v i o).2:=by
 have h:=upN_ok hv i
 exact { h with q:=hv.q.close _ }
theorem pull_ok {k:Int} {v:Mc} (hv:OkMc k v) (o:Ou):OkMc k (pullF v o).2:=by
 have h:=FqN.deq_ok hv.q hv.un (rates_U hv)
 unfold pullF
 split
 ·rename_i s q e;rw [e] at h;exact { hv with q:=h }
 ·rename_i q e;rw [e] at h;exact { hv with q:=h }
theorem set_ok {k:Int} {v:Mc} (hv:OkMc k v) {c:Cf} (hc:0≤cH c∧U (cR c)):OkMc k (setM v c).2:=by
 have h:=hv.q.set hc
 unfold setM
 split
 ·rename_i h0
  refine { hv with q:=h,c:=?_ }
  unfold setF at h0
  by_cases hm:may c=true
  ·exact may_ok hm hc.1 hc.2
  ·rw [if_neg hm] at h0;cases h0
 ·exact { hv with q:=h }
theorem one_ok {k:Int} {v:Mc} (hv:OkMc k v) (hk:k < 1000000) (d:Dd) (xs:List (Int × Int)) (o:Ou):OkMc (k+1) (oneM v d xs o).2.2:=by
 have h1:=OkMc_le hv (j:=k+1) (by omega) (by omega)
 have hc:=hv.c.cap
 unfold oneM
 split
 ·exact h1
 ·rename_i hi
  have hi:0≤dS d∧dS d < 8:=Classical.not_not.1 hi
  have hi8:(dS d).toNat < 8:=by omega
  split
  ·split
   ·have hn:=SockV.new_ivB (dS d) (cMss v.c) (cCap v.c) ⟨by omega,hc.2⟩
    exact upS_ok h1 hi8 (ivB_le hn h1.kr.1 (by omega)) (by show dS d=_;omega)
   ·exact h1
  ·rename_i x hx
   obtain ⟨hxi,hxd,_⟩:=hv.so _ x hx
   split
   ·exact h1
   ·split
    ·exact shut_ok h1 _ _
    ·obtain ⟨a,b⟩:=told_ok hxi hk hv.un d xs
     split
     ·exact pump_ok h1 hi8 a (b.trans hxd) o
     ·exact upS_ok h1 hi8 a (b.trans hxd)
theorem do_ok {k:Int} {v:Mc} (hv:OkMc k v) (hk:k < 1000000) {d:Dd} (hd:OkD d) (xs:List (Int × Int)):OkMc (k+1) (doF v d xs).2:=by
 have h1:=OkMc_le hv (j:=k+1) (by omega) (by omega)
 have e:(doF v d xs).2=(stepM v d xs).2.2:=by unfold doF;split<;>rfl
 rw [e]
 unfold stepM
 split
 ·have hn:=hv.now
  have ha:=hd.a
  unfold U at ha
  refine { h1 with now:=?_ }
  show 0≤(moveF v.now (dA d)).2∧(moveF v.now (dA d)).2≤4611686018427387904
  unfold moveF
  split
  ·exact hn
  ·split
   ·exact hn
   ·exact ⟨ha.1,by show dA d≤_;omega⟩
 ·split
  ·exact pull_ok h1 _
  ·split
   ·exact set_ok h1 hd.c
   ·split
    ·exact one_ok hv hk d xs ou0
    ·exact h1
theorem new_ok {c:Cf} (hc:OkC c):OkMc 0 (newM c) where
 c:=hc
 now:=by show (0:Int)≤0∧(0:Int)≤4611686018427387904;decide
 q:=OkQ.new hc
 so:=fun i x h=>by cases h
 kr:=by decide
theorem _root_.Go.X.Own.outR {w0 w:World} {S0 R0:Nat→Prop} {F G:SP} (h:Own w0 S0 R0 w F) (r:Ks.T KOu) {o:Ou} [tk:TakeK EgF.outR r F o G]:r.2.2.2=o.wd∧Own w0 S0 R0 w (arr r.1 KS o.dep^arr r.2.1 KS o.dr^arr r.2.2.1 KI o.ft^G):=by
 have h:Own w0 S0 R0 w (pur (r.2.2.2=o.wd) (arr r.1 KS o.dep^arr r.2.1 KS o.dr^arr r.2.2.1 KI o.ft)^G):=h.le tk.le
 obtain ⟨hr,h⟩:=h.purP
 exact ⟨hr,h.fin⟩
theorem nil_rarr (A:SP) (K:Ks):Le A (A^rarr ⟨none,0,0⟩ K []) :=
 (star_emp A).trans (star_mono Le.rfl fun w S R h=>⟨⟨⟨by simp [flat],fun _=>rfl,fun q hq=>by cases hq⟩,rfl⟩,h.1,fun k=>⟨fun hk=>absurd hk (h.2 k),fun hk=>absurd rfl hk.2⟩⟩)
theorem do0_tri (b:Nat) (k:Int) (v:Mc) (hv:OkMc k v) (hk:k < 1000000) (d:Dd) (hd:OkD d) (hR:dR d=⟨none,0,0⟩) :
  Tri Tryz.prog N_egress_Machine_Do [.lf (.ptr (some ⟨b,0⟩)),.agg (Ks.mk KD d)] [.agg KOu,.lf (.int .i64)] (mach b v) (fun r=>pur (r.2=(doF v d []).1.2) (mach b (doF v d []).2^outR r.1 (doF v d []).1.1)) :=
 (do_tri b k v hv hk d hd [] (by simp)).le (by rw [hR];exact nil_rarr _ _) (fun _=>Le.rfl)
abbrev plainC:Cf:=(3000,15000,100,50,10000000000,0,false,100000,1000)
abbrev dOpen (s:Int):Dd:=(1,s,0,0,0,⟨none,0,0⟩,0,0,0,0,0,0,false,0,0)
abbrev dSend (s n:Int):Dd:=(2,s,n,0,0,⟨none,0,0⟩,0,0,0,0,0,0,false,0,0)
abbrev dPull:Dd:=(6,0,0,0,0,⟨none,0,0⟩,0,0,0,0,0,0,false,0,0)
theorem dOpen_ok (s:Int):OkD (dOpen s):=⟨(by decide:(0:Int) < 9223372036854775808),U_lit 0,U_lit 0,(by decide:(0:Int)≤0),U_lit 0⟩
theorem dSend_ok (s n:Int) (h:n < 9223372036854775808):OkD (dSend s n):=⟨h,U_lit 0,U_lit 0,(by decide:(0:Int)≤0),U_lit 0⟩
theorem dPull_ok:OkD dPull:=⟨(by decide:(0:Int) < 9223372036854775808),U_lit 0,U_lit 0,(by decide:(0:Int)≤0),U_lit 0⟩
end EgH

namespace EgJ
open Arith ArithC TreeF FqM FqC SockC EgM EgA EgB EgC EgD EgE EgF EgG EgH
open SockM (Sk emitS doneS writeS loseS newS skFl skTso mayS)
open SockO (IvS)
open SockV (IvB)
def sgO (x:Option Fl):List Sg:=match x with
 | none=>[]
 | some f=>f.sg
theorem cnt_sg (x:Option Fl):cnt x=((sgO x).length:Int):=by cases x<;>rfl
theorem coll_sg (v:Qm) (t:Int) (j:Nat):sgO ((collectF v t).fl j)=sgO (v.fl j):=by
 show sgO (if _ then _ else _)=_
 split
 ·rename_i e
  obtain ⟨f,hf,hs,_⟩:=FqM.idle_some e
  rw [hf]
  exact hs.symm
 ·rfl
theorem enq_sg (v:Qm) (s:Sg) (t:Int) (hk:0≤sK s∧sK s≤7) (hl:1≤sLn s∧sLn s≤65536):((enqF v s t).1=(0,0)∧∀ j,sgO ((enqF v s t).2.fl j)=sgO (v.fl j)++if j=(sK s).toNat then [drawn v s t] else []) ∨
  (((enqF v s t).1=(2,0)∨(enqF v s t).1=(3,0)∨(enqF v s t).1=(4,0))∧∀ j,sgO ((enqF v s t).2.fl j)=sgO (v.fl j)):=by
 unfold enqF
 rw [if_neg (fun h=>h hk),if_neg (fun h=>h hl)]
 split
 ·refine .inl ⟨rfl,fun j=>?_⟩
  dsimp only
  rw [FqM.add_eq]
  show sgO (upF (collectF v t).fl (sK s).toNat _ j)=_
  by_cases e:j=(sK s).toNat
  ·rw [e,upF_same,if_pos rfl]
   show ((woken (collectF v t) (sK s).toNat t).sg++[drawn v s t])=_
   rw [woken_sg,← coll_sg v t]
   cases (collectF v t).fl (sK s).toNat<;>rfl
  ·rw [upF_ne _ _ e,if_neg e,coll_sg,List.append_nil]
 ·rename_i hf
  refine .inr ⟨?_,coll_sg v t⟩
  rcases FqT.fate_ne hf with h | h | h
  ·left;show (_,(0:Int))=_;rw [h]
  ·right;left;show (_,(0:Int))=_;rw [h]
  ·right;right;show (_,(0:Int))=_;rw [h]
theorem same_sg {u v:Qm} (h:FqQ.Same u v) (j:Nat):sgO (v.fl j)=sgO (u.fl j):=by
 have:=h j
 cases hu:u.fl j with
 | none =>
  rw [hu] at this
  cases hv:v.fl j with
  | none=>rfl
  | some g=>rw [hv] at this;cases this
 | some f =>
  obtain ⟨g,hg,_,hs,_⟩:=h.to hu
  rw [hg]
  exact hs
abbrev b0 (c:Ct):Int:=c.2.1
abbrev b1 (c:Ct):Int:=c.2.2.1
abbrev b2 (c:Ct):Int:=c.2.2.2.1
abbrev b3 (c:Ct):Int:=c.2.2.2.2.1
abbrev b4 (c:Ct):Int:=c.2.2.2.2.2.1
abbrev b5 (c:Ct):Int:=c.2.2.2.2.2.2.1
end EgJ

namespace EgK
open Arith ArithC TreeF FqM FqC SockC EgM EgA EgB EgC EgD EgE EgF EgG EgH EgJ
open SockM (Sk emitS doneS writeS loseS newS skFl skTso mayS)
section
variable {w0 w : World} {S R : Nat → Prop}
end
abbrev c8 (c:Ct):List Int:=[c.1,b0 c,b1 c,b2 c,b3 c,b4 c,b5 c,cWt c]
end EgK

namespace EgL
open Arith ArithC TreeF FqM FqC SockC EgM EgA EgB EgC EgD EgE EgF EgG EgH EgJ EgK
open SockM (Sk emitS doneS writeS loseS newS skFl skTso mayS)
section
variable {w0 w : World} {S R : Nat → Prop} {F G : SP}
theorem w_do0 {b:Nat} {v:Mc} {k:Int} {d:Dd} (h:Own w0 S R w F) [tk:TakeK EgB.mach b F v G] (hv:OkMc k v) (hk:k < 1000000) (hd:OkD d) (hR:dR d=⟨none,0,0⟩)
  {A:Rs.T [.agg KOu,.lf (.int .i64)]→WP} (hA:∀ (r:Rs.T [.agg KOu,.lf (.int .i64)]) (w:World),r.2=(doF v d []).1.2→Own w0 S R w (mach b (doF v d []).2^outR r.1 (doF v d []).1.1^G)→A r w) :
  call Tryz.prog N_egress_Machine_Do [.lf (.ptr (some ⟨b,0⟩)),.agg (Ks.mk KD d)] [.agg KOu,.lf (.int .i64)] A w:=by
 refine w_call (do0_tri b k v hv hk d hd hR) (h.le tk.le) fun r w h=>?_
 obtain ⟨hre,h⟩:=h.purP
 exact hA r w hre (h.le (star_assoc _ _ _))
end
abbrev dOne (k s n:Int):Dd:=(k,s,n,0,0,⟨none,0,0⟩,0,0,0,0,0,0,false,0,0)
theorem dOne_ok (k s n:Int) (h:n < 9223372036854775808):OkD (dOne k s n):=⟨h,U_lit 0,U_lit 0,(by decide:(0:Int)≤0),U_lit 0⟩
theorem open_eq (v:Mc) {s:Int} (hs:0≤s∧s < 8) (h:v.so s.toNat=none):doF v (dOne 1 s 0) []=((ou0,0),{ v with so:=upL v.so s.toNat (some (newS s (cMss v.c) (cCap v.c))) }):=by
 have e:stepM v (dOne 1 s 0) []=(0,ou0,{ v with so:=upL v.so s.toNat (some (newS s (cMss v.c) (cCap v.c))) }):=by
  show oneM v (dOne 1 s 0) [] ou0=_
  unfold oneM
  rw [if_neg (fun c=>c hs)]
  show (match v.so s.toNat with | none=>_ | some x=>_)=_
  rw [h]
  rfl
 unfold doF
 rw [e]
 rfl
end EgL

namespace EgO
open Arith ArithC TreeF FqM FqC SockC EgM EgA EgB EgC EgD EgE EgF EgG EgH EgJ EgK EgL
open SockM (Sk emitS doneS writeS loseS newS skFl skTso mayS)
theorem send_eq (v:Mc) {s:Int} (hs:0≤s∧s < 8) {x:Sk} (h:v.so s.toNat=some x) {n:Int} (hn:(writeS x n).1=0):doF v (dOne 2 s n) []=(((pumpM v s.toNat (writeS x n).2 ou0).1,0),(pumpM v s.toNat (writeS x n).2 ou0).2):=by
 have e:stepM v (dOne 2 s n) []=(0,(pumpM v s.toNat (writeS x n).2 ou0).1,(pumpM v s.toNat (writeS x n).2 ou0).2):=by
  show oneM v (dOne 2 s n) [] ou0=_
  unfold oneM
  rw [if_neg (fun c=>c hs)]
  show (match v.so s.toNat with | none=>_ | some x=>_)=_
  rw [h]
  show (if (writeS x n).1=0 then _ else _)=_
  rw [if_pos hn]
  rfl
 unfold doF
 rw [e]
 rfl
theorem tot_one (fl:Nat→Option Fl) {i:Nat} (hi:i < 8) (h:∀ j,j≠i→sgO (fl j)=[]):tot fl 8=((sgO (fl i)).length:Int):=by
 have e:=tot_ext (fl:=fl) (gl:=FqM.upF (fun _=>none) i (fl i)) 8 fun j hj=>by
  by_cases e:j=i
  ·rw [e,FqM.upF_same]
  ·rw [FqM.upF_ne _ _ e,cnt_sg,h j e];rfl
 rw [e,FqM.tot_up,if_pos hi,cnt_sg]
 show (0:Int)+0+0+0+0+0+0+0+0+(_ - 0)=_
 omega
end EgO

namespace EgP
open Arith ArithC TreeF FqM FqC SockC EgM EgA EgB EgC EgD EgE EgF EgG EgH EgJ EgK EgL
open SockM (Sk emitS doneS writeS loseS newS skFl skTso mayS)
section
variable {w0 w : World} {S R : Nat → Prop}
end
def fill {α:Type} (f:Nat→α) (z:α) (y:Nat):List α:=[if 0 < y then f 0 else z,if 1 < y then f 1 else z,if 2 < y then f 2 else z,if 3 < y then f 3 else z,if 4 < y then f 4 else z,if 5 < y then f 5 else z,if 6 < y then f 6 else z,if 7 < y then f 7 else z]
abbrev fC (v:Mc) (j:Nat):Ks.T KCt:=countL v.l (j:Int)
end EgP

namespace EgQ
open Arith ArithC TreeF FqM FqC SockC EgM EgA EgB EgC EgD EgE EgF EgG EgH EgJ EgK EgL
open SockM (Sk emitS doneS writeS loseS newS skFl skTso mayS)
abbrev d0:Dd:=(0,0,0,0,0,⟨none,0,0⟩,0,0,0,0,0,0,false,0,0)
abbrev pAt (ps:List OpE) (j:Nat):OpE:=ps.getD j (d0,[])
def runM (v:Mc) (ps:List OpE):Nat→Mc
 | 0=>v
 | j+1=>(doF (runM v ps j) (pAt ps j).1 (pAt ps j).2).2
def errsM (v:Mc) (ps:List OpE):Nat→List Int
 | 0=>[]
 | j+1=>errsM v ps j++[(doF (runM v ps j) (pAt ps j).1 (pAt ps j).2).1.2]
def lastO (v:Mc) (ps:List OpE):Nat→Ou
 | 0=>ou0
 | j+1=>(doF (runM v ps j) (pAt ps j).1 (pAt ps j).2).1.1
def lastR (rows:List (Ks.T KOu)) (o:Ou):SP:=match rows.getLast? with
 | none=>emp
 | some r=>outR r o
instance (rows:List (Ks.T KOu)) (o:Ou):NoR (lastR rows o):=by unfold lastR;split<;>infer_instance
theorem lastR_app (rows:List (Ks.T KOu)) (r:Ks.T KOu) (o:Ou):lastR (rows++[r]) o=outR r o:=by
 unfold lastR
 rw [List.getLast?_concat]
theorem errs_len (v:Mc) (ps:List OpE):∀ j,(errsM v ps j).length=j
 | 0=>rfl
 | j+1=>by show (errsM v ps j++[_]).length=_;rw [List.length_append,errs_len v ps j];rfl
theorem runM_ok {c:Cf} (hc:OkC c) {ps:List OpE} (hd:∀ p∈ps,OkD p.1):∀ j:Nat,j≤1000→j≤ps.length→OkMc (j:Int) (runM (newM c) ps j)
 | 0,_,_=>new_ok hc
 | j+1,h1,h2=>by
  have hj:pAt ps j=ps[j]:=by unfold pAt;rw [List.getD_eq_getElem?_getD,List.getElem?_eq_getElem (by omega)];rfl
  have:=do_ok (runM_ok hc hd j (by omega) (by omega)) (by omega) (hd (pAt ps j) (by rw [hj];exact List.getElem_mem _)) (pAt ps j).2
  rw [show (j:Int)+1=((j+1:Nat):Int) by omega] at this
  exact this
theorem run_tri (c:Cf) (hm:may c=true) (hc:OkC c) (s:Sl) (ps:List OpE) (hl:ps.length≤1000) (hd:∀ p∈ps,OkD p.1) (hx:∀ p∈ps,p.2.length≤4294967296):Tri Tryz.prog N_script_Run [.agg (Ks.mk KC c),.lf (.sl s)] [.lf .sl,.lf .sl] (emp^opsE s ps)
  (fun r=>ex fun rows:List (Ks.T KOu)=>pur (rows.length=ps.length) (arr r.1 KOu rows^arr r.2 KI (errsM (newM c) ps ps.length)^lastR rows (lastO (newM c) ps ps.length))) :=
 tri_0 (call_script_Run c s) fun w0 S R h=>by
  unfold W_script_Run
  have hsl:=(h.rd (s:=s)).2
  rw [List.length_map] at hsl
  refine w_new h fun n1 w h=>w_ldAll (b:=n1) (x:=c) h rfl (w_call (EgE.new_tri c) (h.le ((star_emp _).trans (star_comm _ _))) fun r w h=>?_)
  obtain ⟨b,h⟩:=h.exP
  obtain ⟨hr,h⟩:=h.purP
  rw [if_pos hm] at hr h
  rw [hr]
  refine w_ite (fun c=>(by cases c)) fun _=>?_
  have h:=h.nil KOu
  have h:=h.nil KI
  have h:Own w0 S R w (mach b (runM (newM c) ps (0:Int).toNat)^arr ⟨none,0,0⟩ KOu []^arr ⟨none,0,0⟩ KI (errsM (newM c) ps (0:Int).toNat)^lastR [] (lastO (newM c) ps (0:Int).toNat)^opsE s ps):=Own.fin (A:=mach b (newM c)^arr ⟨none,0,0⟩ KOu []^arr ⟨none,0,0⟩ KI []^emp^opsE s ps) h
  refine w_loopE (fun (y:Sl × Sl × Int) (rows:List (Ks.T KOu))=>mach b (runM (newM c) ps y.2.2.toNat)^arr y.1 KOu rows^arr y.2.1 KI (errsM (newM c) ps y.2.2.toNat)^lastR rows (lastO (newM c) ps y.2.2.toNat)^opsE s ps) (fun (y:Sl × Sl × Int) rows=>(0≤y.2.2∧y.2.2≤ps.length)∧rows.length=y.2.2.toNat) (fun (y:Sl × Sl × Int) _=>((ps.length:Int) - y.2.2).toNat) [] h ⟨⟨Int.le_refl 0,by show (0:Int)≤_;omega⟩,rfl⟩ ?_
  rintro K (y:Sl × Sl × Int) rows w ⟨hyr,hrl⟩ h next
  obtain ⟨y1,y2,y3⟩:=y
  dsimp only at hyr hrl h next ⊢
  refine w_ite (fun c0=>?_) fun c0=>?_
  ·have c0:y3 < ((s.len:Nat):Int):=of_decide_eq_true c0
   have hlt:y3.toNat < ps.length:=by omega
   obtain ⟨p,hpi⟩:∃ p,ps[y3.toNat]?=some p:=⟨_,List.getElem?_eq_getElem hlt⟩
   have hpa:pAt ps y3.toNat=p:=by unfold pAt;rw [List.getD_eq_getElem?_getD,hpi];rfl
   have hdm:(ps.map Prod.fst)[y3.toNat]?=some p.1:=by rw [List.getElem?_map,hpi];rfl
   have hdl:y3.toNat < (ps.map Prod.fst).length:=by rw [List.length_map];exact hlt
   have hmem:=List.mem_of_getElem? hpi
   refine w_idx (s:=s) h hyr.1 hdl (w_ldE h s y3.toNat hdm rfl ?_)
   refine w_new h fun n9 w h=>w_setTo h n9 (Ks.mk KD p.1) rfl rfl rfl fun w h=>w_ldAll (b:=n9) (x:=p.1) h rfl ?_
   haveI:=rd_dR hpi
   have hv:=runM_ok hc hd y3.toNat (by omega) (by omega)
   have h:Own w0 S R w (mach b (runM (newM c) ps y3.toNat)^(arr y1 KOu rows^arr y2 KI (errsM (newM c) ps y3.toNat))^opsE s ps):=h.fin
   refine w_callL (A:=mach b (runM (newM c) ps y3.toNat)) (Q:=rarr (dR p.1) KR p.2) (do_tri b _ _ hv (by omega) p.1 (hd p hmem) p.2 (hx p hmem)) h fun r w h=>?_
   obtain ⟨hre,h⟩:=h.purP
   obtain ⟨ro,re⟩:=r
   dsimp only at hre h ⊢
   rw [← hpa] at hre h
   have h:Own w0 S R w (outR ro (lastO (newM c) ps (y3.toNat+1))^mach b (runM (newM c) ps (y3.toNat+1))^arr y1 KOu rows^arr y2 KI (errsM (newM c) ps y3.toNat)^opsE s ps):=Own.fin (A:=outR ro (doF (runM (newM c) ps y3.toNat) (pAt ps y3.toNat).1 (pAt ps y3.toNat).2).1.1^mach b (doF (runM (newM c) ps y3.toNat) (pAt ps y3.toNat).1 (pAt ps y3.toNat).2).2^arr y1 KOu rows^arr y2 KI (errsM (newM c) ps y3.toNat)^opsE s ps) h
   refine w_new h fun n12 w h=>w_setTo h n12 (Ks.mk KOu ro) rfl rfl rfl fun w h=>w_ldAll (b:=n12) (x:=ro) h rfl ?_
   refine w_new h fun n14 w h=>?_
   have h:=h.blkArr n14 KOu [ro] rfl (by simp)
   have h:Own w0 S R w (arr ⟨some ⟨n14,0⟩,1,1⟩ KOu [ro]^_):=h
   have h:Own w0 S R w (arr y1 KOu rows^arr ⟨some ⟨n14,0⟩,1,1⟩ KOu [ro]^outR ro (lastO (newM c) ps (y3.toNat+1))^mach b (runM (newM c) ps (y3.toNat+1))^arr y2 KI (errsM (newM c) ps y3.toNat)^opsE s ps):=h.fin
   refine w_app (s:=y1) (x:=⟨some ⟨n14,0⟩,1,1⟩) h rfl (by rw [hrl];show _+1≤_;omega) fun s15 w _ h=>?_
   refine w_new h fun n16 w h=>?_
   have h:=h.blkArr n16 KI [re] rfl (by simp)
   have h:Own w0 S R w (arr ⟨some ⟨n16,0⟩,1,1⟩ KI [re]^_):=h
   have h:Own w0 S R w (arr y2 KI (errsM (newM c) ps y3.toNat)^arr ⟨some ⟨n16,0⟩,1,1⟩ KI [re]^arr s15 KOu (rows++[ro])^outR ro (lastO (newM c) ps (y3.toNat+1))^mach b (runM (newM c) ps (y3.toNat+1))^opsE s ps):=h.fin
   refine w_app (s:=y2) (x:=⟨some ⟨n16,0⟩,1,1⟩) h rfl (by rw [errs_len];show _+1≤_;omega) fun s17 w _ h=>?_
   have hwi:IntKind.i64.wrap (y3+1)=y3+1:=wi (by omega) (by omega)
   have he:errsM (newM c) ps y3.toNat++[re]=errsM (newM c) ps (y3.toNat+1):=by rw [hre];rfl
   have h1:(y3+1).toNat=y3.toNat+1:=by omega
   rw [hwi]
   rw [he,← lastR_app rows ro] at h
   refine next (s15,s17,y3+1) (rows++[ro]) w ⟨⟨by show 0≤y3+1;omega,by show y3+1≤_;omega⟩,by show _=(y3+1).toNat;rw [List.length_append,hrl,h1];rfl⟩ ?_ (by show ((ps.length:Int) - (y3+1)).toNat < ((ps.length:Int) - y3).toNat;omega)
   show Own w0 S R w (mach b (runM (newM c) ps (y3+1).toNat)^arr s15 KOu (rows++[ro])^arr s17 KI (errsM (newM c) ps (y3+1).toNat)^lastR (rows++[ro]) (lastO (newM c) ps (y3+1).toNat)^opsE s ps)
   rw [h1]
   exact h.fin
  ·have c0:¬ y3 < ((s.len:Nat):Int):=of_decide_eq_false c0
   have e:y3.toNat=ps.length:=by omega
   rw [e] at h hrl
   exact Own.retE rows (Own.retP hrl h.fin)
abbrev awP:List OpE:=[(dOpen 0,[]),(dSend 0 500,[]),(dPull,[])]
theorem aw_eq:errsM (newM FqH.plainC) awP 3=[0,0,0]∧(lastO (newM FqH.plainC) awP 3).dep=[(0,0,500,0,false)]:=by decide +kernel
theorem tawake_tri:Tri Tryz.prog N_cantertop_awake [] [.lf .bool] emp (fun r=>pur (r=true) emp) :=
 tri_0 call_cantertop_awake fun w0 S R h=>by
  unfold W_cantertop_awake
  obtain ⟨h1,h2⟩:=aw_eq
  refine w_call FqH.plain_tri (h.le (star_emp _)) fun r w h=>?_
  obtain ⟨hr,h⟩:=h.purP;rw [hr]
  refine w_new h fun n2 w h=>?_
  have h:=h.blkArr n2 KD [dOpen 0,dSend 0 500,dPull] rfl (by simp)
  have h:Own w0 S R w (arr ⟨some ⟨n2,0⟩,3,3⟩ KD [dOpen 0,dSend 0 500,dPull]^emp):=h.fin
  refine w_callL (A:=emp) (Q:=rarr ⟨some ⟨n2,0⟩,3,3⟩ KD [dOpen 0,dSend 0 500,dPull]^rarr ⟨none,0,0⟩ KR []^rarr ⟨none,0,0⟩ KR []^rarr ⟨none,0,0⟩ KR []^emp) (run_tri FqH.plainC FqH.plain_may FqH.plain_ok ⟨some ⟨n2,0⟩,3,3⟩ awP (by decide) (by
   simp only [List.mem_cons,List.not_mem_nil,or_false]
   rintro p (rfl | rfl | rfl)
   ·exact dOpen_ok 0
   ·exact dSend_ok 0 500 (by decide)
   ·exact dPull_ok) (by
   simp only [List.mem_cons,List.not_mem_nil,or_false]
   rintro p (rfl | rfl | rfl)<;>exact Nat.zero_le _)) (h.le ((star_emp _).trans (star_comm _ _))) fun r w h=>?_
  obtain ⟨rows,h⟩:=h.exP
  obtain ⟨hl,h⟩:=h.purP
  obtain ⟨r1,r2⟩:=r
  have hl:rows.length=3:=hl
  obtain ⟨a,b,c,hrows⟩:∃ a b c,rows=[a,b,c]:=by
   match rows,hl with
   | [a,b,c],_=>exact ⟨a,b,c,rfl⟩
  rw [hrows] at h
  have h:Own w0 S R w (outR c (lastO (newM FqH.plainC) awP 3)^arr r1 KOu [a,b,c]^arr r2 KI (errsM (newM FqH.plainC) awP 3)^emp):=Own.fin (A:=outR c (lastO (newM FqH.plainC) awP 3)^arr r1 KOu [a,b,c]^arr r2 KI (errsM (newM FqH.plainC) awP 3)^emp) (F:=(arr r1 KOu [a,b,c]^arr r2 KI (errsM (newM FqH.plainC) awP 3)^outR c (lastO (newM FqH.plainC) awP 3))^_) h
  obtain ⟨c1,c2,c3,c4⟩:=c
  obtain ⟨_,h⟩:=h.outR (c1,c2,c3,c4)
  dsimp only at h
  rw [h1,h2] at h
  have l1:=(h.rd (s:=r1)).2
  have l2:=(h.rd (s:=r2)).2
  have l3:=(h.rd (s:=c1)).2
  dsimp only
  refine w_ite (fun _=>?_) fun c=>(by rw [l1,l2] at c;cases c)
  refine w_idx (s:=r2) h (by decide) (by show 2 < 3;decide) (w_ldE h r2 2 (y:=(0:Int)) rfl rfl (w_ite (fun _=>?_) fun c=>(by cases c)))
  refine w_idx (s:=r1) h (by decide) (by show 2 < 3;decide) (w_ldA h r1 2 0 ((c1,c2,c3,c4):Ks.T KOu) rfl rfl (by decide) (x:=c1) rfl (w_ite (fun _=>?_) fun c=>(by rw [l3] at c;cases c)))
  refine w_idx (s:=r1) h (by decide) (by show 2 < 3;decide) (w_ldA h r1 2 0 ((c1,c2,c3,c4):Ks.T KOu) rfl rfl (by decide) (x:=c1) rfl ?_)
  refine w_idx (s:=c1) h (by decide) (by show 0 < 1;decide) (w_ldA h c1 0 2 ((0,0,500,0,false):Sg) rfl rfl (by decide) (x:=(500:Int)) rfl ?_)
  exact Own.retP rfl h.emp'
end EgQ

namespace EgW
open Arith ArithC TreeF FqM FqC SockC EgM EgA EgB EgC EgD EgE EgF EgG EgH EgJ EgK EgL EgO EgP EgQ
open SockM (Sk emitS doneS writeS loseS newS skFl skTso mayS)
open SockV (IvB)
abbrev shC:Cf:=(3000,15000,512,512,10000000000,0,false,100000,1000)
def Soon (q:Qm):Prop:=∀ j f,q.fl j=some f→f.nx≤0∧∀ s∈f.sg,sSt s≤0
structure Op (k:Nat) (v:Mc):Prop where
 now:v.now=0
 c:v.c=shC
 so:∀ j,k≤j→v.so j=none
 t:Soon v.q
 one:∀ j,(sgO (v.q.fl j)).length≤1
 out:∀ j,k≤j→sgO (v.q.fl j)=[]
 b:∀ j,b1 (v.l j)=0
end EgW

namespace EgY
open Arith ArithC TreeF FqM FqC SockC EgM EgA EgB EgC EgD EgE EgF EgG EgH EgJ EgK EgL EgO EgP EgQ EgW
open SockM (Sk emitS doneS writeS loseS newS skFl skTso mayS)
abbrev dAt (t:Int):Dd:=(5,0,0,0,t,⟨none,0,0⟩,0,0,0,0,0,0,false,0,0)
theorem pull_eq (v:Mc):doF v dPull []=(((pullF v ou0).1,0),(pullF v ou0).2):=rfl
end EgY

namespace EgZa
open Arith ArithC TreeF FqM FqC SockC EgM EgA EgB EgC EgD EgE EgF EgG EgH EgJ EgK EgL EgO EgP EgQ EgW EgY
open SockM (Sk emitS doneS writeS loseS newS skFl skTso mayS)
open SockV (IvB)
open SockA (bW bN bU bL)
open Board (Pc pFrom pTo pSk pLo flyP mkPc lostF passF restL)
def chain:Int→List Sg→Int→Prop
 | y,[],e=>y=e
 | y,s :: l,e=>(sFr s=y∧1≤sLn s)∧chain (y+sLn s) l e
theorem chain_snoc:∀ {l:List Sg} {y e:Int} {g:Sg},chain y l e→sFr g=e→1≤sLn g→chain y (l++[g]) (e+sLn g)
 | [],y,e,g,h,h1,h2=>by
  have h:y=e:=h
  exact ⟨⟨by omega,h2⟩,by show y+sLn g=e+sLn g;omega⟩
 | s :: l,y,e,g,h,h1,h2=>⟨h.1,chain_snoc h.2 h1 h2⟩
theorem chain_le:∀ {l:List Sg} {y e:Int},chain y l e→y+(l.length:Int)≤e∧∀ s∈l,y≤sFr s∧sFr s+sLn s≤e
 | [],y,e,h=>by have h:y=e:=h;exact ⟨by simp;omega,fun s hs=>by cases hs⟩
 | s :: l,y,e,h=>by
  obtain ⟨a,b⟩:=chain_le h.2
  have h1:=h.1
  refine ⟨by simp only [List.length_cons];omega,fun t ht=>?_⟩
  rcases List.mem_cons.1 ht with rfl | ht
  ·omega
  ·have:=b t ht;omega
def sumL:List Sg→Int
 | []=>0
 | s :: l=>sLn s+sumL l
theorem sumL_app:∀ (l m:List Sg),sumL (l++m)=sumL l+sumL m
 | [],m=>by show sumL m=0+sumL m;omega
 | s :: l,m=>by show sLn s+sumL (l++m)=sLn s+sumL l+sumL m;rw [sumL_app l m];omega
structure Lk (y:Int) (pre:List Sg) (x:Sk) (ss:List Sg):Prop where
 bd:x.bd.1.map (fun p=>(pFrom p,pTo p))=(pre++ss).map (fun s=>(sFr s,sFr s+sLn s))
 cl:∀ p∈x.bd.1,pSk p=false∧pLo p=false
 ch:chain y (pre++ss) (bN x.bf)
 ag:∀ s∈pre++ss,sAg s=false
 out:x.out=sumL ss
 wn:0 < x.md.win
 ms:500≤x.mss∧x.mss≤9000
 lm:bL x.bf=1073741824
theorem lost_none:∀ {l:List Pc},(∀ p∈l,pLo p=false)→(lostF l).2=false:=fun {l} h=>by
 cases hl:(lostF l).2 with
 | false=>rfl
 | true =>
  exfalso
  unfold lostF at hl
  split at hl
  ·rename_i p hp
   split at hl
   ·cases hl
   ·rename_i hc
    apply hc
    rw [fI_none h]
    decide
  ·cases hl
theorem pass_none:∀ {l:List Pc},(∀ p∈l,pSk p=false)→passF l=(l,0,0)
 | [],_=>rfl
 | p :: l,h=>by
  have h1:=h p (List.mem_cons_self ..)
  have h2:=pass_none (l:=l) fun q hq=>h q (List.mem_cons_of_mem _ hq)
  have ha:Board.abvF p 0=0:=by unfold Board.abvF;rw [h1];rfl
  have hh:Board.hitF p 0=false:=by unfold Board.hitF;rw [ha];simp
  unfold passF
  rw [h2]
  dsimp only
  rw [hh,ha]
  rfl
theorem flS_sum:∀ {l:List Pc} {m:List Sg},l.map (fun p=>(pFrom p,pTo p))=m.map (fun s=>(sFr s,sFr s+sLn s))→(∀ p∈l,pSk p=false∧pLo p=false)→SockQ.flS l=sumL m
 | [],[],_,_=>rfl
 | p :: l,s :: m,h,hc=>by
  rw [List.map_cons,List.map_cons,List.cons.injEq] at h
  obtain ⟨h1,h2⟩:=h
  have e1:pFrom p=sFr s:=congrArg Prod.fst h1
  have e2:pTo p=sFr s+sLn s:=congrArg Prod.snd h1
  have:=flS_sum h2 fun q hq=>hc q (List.mem_cons_of_mem _ hq)
  obtain ⟨c1,c2⟩:=hc p (List.mem_cons_self ..)
  show (if flyP p then pTo p - pFrom p else 0)+SockQ.flS l=sLn s+sumL m
  rw [if_pos (by unfold flyP;rw [c1,c2];rfl),this,e1,e2];omega
theorem lk_flight {K y:Int} {pre ss:List Sg} {x:Sk} (h:Lk y pre x ss) (hx:IvB K x):skFl x=sumL (pre++ss):=by
 show Board.flightF x.bd.1=_
 rw [SockQ.flight_eq hx.i.pc hx.i.ok.bl]
 exact flS_sum h.bd h.cl
theorem tso_2 {rate m:Int} (h:500≤m∧m≤9000):1000≤SockB.tsoF rate m:=by
 have e:SockB.clampM m=m:=by unfold SockB.clampM;(repeat' split)<;>omega
 unfold SockB.tsoF
 rw [e]
 have h2:2≤(65536:Int) / m:=by
  rw [Int.le_ediv_iff_mul_le (by omega)];omega
 have hk:∀ k:Int,2≤k→1000≤k * m:=fun k hk=>by
  have:=Int.mul_le_mul_of_nonneg_right hk (show 0≤m by omega)
  omega
 apply hk
 (repeat' split)<;>omega
theorem emit_lk {K y now:Int} {pre ss:List Sg} {x:Sk} (h:Lk y pre x ss) (hx:IvB K x) (hn:U now) (he:(emitS x now).1.2=0) :
  (∀ g:Sg,sFr g=sFr (emitS x now).1.1→sLn g=sLn (emitS x now).1.1→sAg g=false→Lk y pre (emitS x now).2 (ss++[g])) ∧
  SockQ.gA (emitS x now).1.1=false∧bW (emitS x now).2.bf=bW x.bf∧bN (emitS x now).2.bf=bN x.bf+sLn (emitS x now).1.1∧(1000≤sLn (emitS x now).1.1∨bN (emitS x now).2.bf=bW x.bf):=by
 have hw:=went_of hx hn he
 have hlo:=lost_none fun p hp=>(h.cl p hp).2
 have hA:SockQ.gA (emitS x now).1.1=false:=by
  cases hg:SockQ.gA (emitS x now).1.1 with
  | false=>rfl
  | true =>
   have:=(hw.old hg).2.1
   rw [this] at hlo
   cases hlo
 obtain ⟨n1,n2,_,n4,n5⟩:=hw.new hA
 have hnn:=hw.n
 have t2:=tso_2 (rate:=x.md.rate) h.ms
 refine ⟨fun g g1 g2 g3=>?_,hA,by rw [n2],by rw [n2],?_⟩
 ·have f1:sFr g=SockQ.gF (emitS x now).1.1:=g1
  have f2:sLn g=SockQ.gN (emitS x now).1.1:=g2
  refine { bd:=?_,cl:=fun p hp=>?_,ch:=?_,ag:=fun s hs=>?_,out:=?_,wn:=by rw [hw.md];exact h.wn,ms:=by rw [hw.mss];exact h.ms,lm:=by rw [n2];exact h.lm }
  ·rw [n5,← List.append_assoc,List.map_append,List.map_append,h.bd]
   show _++[(SockQ.gF (emitS x now).1.1,SockQ.gF (emitS x now).1.1+SockQ.gN (emitS x now).1.1)]=_++[(sFr g,sFr g+sLn g)]
   rw [f1,f2]
  ·rw [n5] at hp
   rcases List.mem_append.1 hp with hp | hp
   ·exact h.cl p hp
   ·rw [List.mem_singleton] at hp
    rw [hp];exact ⟨rfl,rfl⟩
  ·rw [n2,← List.append_assoc]
   show chain y _ (bN x.bf+SockQ.gN (emitS x now).1.1)
   rw [← f2]
   exact chain_snoc h.ch (by rw [f1,n1]) (by omega)
  ·rw [← List.append_assoc] at hs
   rcases List.mem_append.1 hs with hs | hs
   ·exact h.ag s hs
   ·rw [List.mem_singleton] at hs
    rw [hs];exact g3
  ·rw [hw.out,h.out,sumL_app]
   show _=_+(sLn g+0)
   rw [f2];omega
 ·have e1:sLn (emitS x now).1.1=SockO.cutN x:=n4
  rw [n2]
  show _∨bN x.bf+SockQ.gN (emitS x now).1.1=bW x.bf
  rw [e1,n4]
  unfold SockO.cutN skTso
  omega
theorem sum_nn:∀ {l:List Sg} {y e:Int},chain y l e→0≤sumL l
 | [],_,_,_=>Int.le_refl 0
 | s :: l,y,e,h=>by have:=sum_nn h.2;have:=h.1.2;show 0≤sLn s+sumL l;omega
theorem done_lk {y:Int} {s:Sg} {ss:List Sg} {x:Sk} (h:Lk y [] x (s :: ss)):(doneS x (sLn s)).1=0∧Lk y [s] (doneS x (sLn s)).2 ss∧(doneS x (sLn s)).2.bf=x.bf∧(doneS x (sLn s)).2.nx=x.nx:=by
 have hc:chain y (s :: ss) (bN x.bf):=h.ch
 have h1:=hc.1.2
 have h2:=sum_nn hc.2
 have ho:x.out=sLn s+sumL ss:=h.out
 have e:doneS x (sLn s)=(0,{ x with out:=x.out - sLn s }):=by unfold doneS;rw [if_neg (by omega)]
 rw [e]
 exact ⟨rfl,{ bd:=h.bd,cl:=h.cl,ch:=h.ch,ag:=h.ag,out:=by show x.out - sLn s=sumL ss;omega,wn:=h.wn,ms:=h.ms,lm:=h.lm },rfl,rfl⟩
theorem rest_tail {y e:Int} {s:Sg} {ss:List Sg} {l:List Pc} (hb:l.map (fun p=>(pFrom p,pTo p))=(s :: ss).map (fun s=>(sFr s,sFr s+sLn s))) (hc:chain y (s :: ss) e) (hk:∀ p∈l,pSk p=false∧pLo p=false) :
  ∃ p m,l=p :: m∧restL (y+sLn s) [] l=m:=by
 cases l with
 | nil=>cases hb
 | cons p m =>
  rw [List.map_cons,List.map_cons,List.cons.injEq] at hb
  obtain ⟨h1,h2⟩:=hb
  have e2:pTo p=sFr s+sLn s:=congrArg Prod.snd h1
  have hs:=hc.1
  have hm:∀ q∈m,y+sLn s < pTo q:=fun q hq=>by
   obtain ⟨t,ht,hte⟩:∃ t∈ss,(sFr t,sFr t+sLn t)=(pFrom q,pTo q):=by
    have:(pFrom q,pTo q)∈ss.map (fun s=>(sFr s,sFr s+sLn s)):=by rw [← h2];exact List.mem_map.2 ⟨q,hq,rfl⟩
    obtain ⟨t,ht,he⟩:=List.mem_map.1 this
    exact ⟨t,ht,he⟩
   have e3:sFr t+sLn t=pTo q:=congrArg Prod.snd hte
   have e4:sFr t=pFrom q:=congrArg Prod.fst hte
   have b:=(chain_le hc.2).2 t ht
   have:1≤sLn t:=by
    have all:∀ {l:List Sg} {y e:Int},chain y l e→∀ t∈l,1≤sLn t:=fun {l}=>by
     induction l with
     | nil=>intro _ _ _ t ht;cases ht
     | cons a l ih =>
      intro y e h t ht
      rcases List.mem_cons.1 ht with rfl | ht
      ·exact h.1.2
      ·exact ih h.2 t ht
    exact all hc.2 t ht
   omega
  refine ⟨p,m,rfl,?_⟩
  unfold restL
  have f1:(p :: m).filter (fun p=>!decide (p.2.1≤y+sLn s))=m:=by
   rw [List.filter_cons,if_neg (by
    have:pTo p≤y+sLn s:=by omega
    rw [decide_eq_true this];simp)]
   exact List.filter_eq_self.2 fun q hq=>by
    have:=hm q hq
    rw [decide_eq_false (by show ¬ pTo q≤_;omega)];rfl
  rw [f1]
  have f2:m.map (Board.markP (y+sLn s) [])=m.map id:=List.map_congr_left fun q hq=>by
   unfold Board.markP Board.toldP
   have:=hm q hq
   rw [if_neg (by rw [decide_eq_false (by show ¬ pTo q≤_;omega)];simp)]
   rfl
  rw [f2,List.map_id]
theorem ack_lk {K y now:Int} {s:Sg} {ss:List Sg} {x:Sk} (h:Lk y [s] x ss) (hx:IvB K x):(SockL.ackS x now (y+sLn s) []).1=0∧Lk (y+sLn s) [] (SockL.ackS x now (y+sLn s) []).2 ss ∧
  bW (SockL.ackS x now (y+sLn s) []).2.bf=bW x.bf∧bN (SockL.ackS x now (y+sLn s) []).2.bf=bN x.bf∧(SockL.ackS x now (y+sLn s) []).2.nx=x.nx:=by
 have hc:chain y (s :: ss) (bN x.bf):=h.ch
 have hle:y+sLn s≤bN x.bf:=by have:=(chain_le hc).2 s (List.mem_cons_self ..);have:=hc.1;omega
 obtain ⟨p,m,hl,hr⟩:=rest_tail h.bd hc h.cl
 have hm:Board.mayF x.bd (y+sLn s) []=true:=by
  unfold Board.mayF
  rw [decide_eq_true (by rw [hx.i.e];exact hle)];rfl
 have hkm:∀ q∈m,pSk q=false∧pLo q=false:=fun q hq=>h.cl q (by rw [hl];exact List.mem_cons_of_mem _ hq)
 have hp:=pass_none (l:=m) fun q hq=>(hkm q hq).1
 have ea:(SockA.akF x.bf (y+sLn s)).2=(bW x.bf,bN x.bf,(if y+sLn s > bU x.bf then y+sLn s else bU x.bf),bL x.bf):=by
  unfold SockA.akF
  rw [if_neg (by omega)]
 unfold SockL.ackS
 rw [if_pos hm]
 have hfl:=BbrF.upd_floor (SockL.toldS x now (y+sLn s) []).md
 have hmm:100≤x.md.mss:=by first | exact hx.i.ok.md.mss.1 | (have:=hx.i.ok.md.mss;omega)
 have hb2:(SockL.toldS x now (y+sLn s) []).bd=(m,x.bd.2):=by
  show ((passF (restL (y+sLn s) [] x.bd.1)).1,x.bd.2)=_
  rw [hr,hp]
 have hf2:(SockL.toldS x now (y+sLn s) []).bf=(bW x.bf,bN x.bf,(if y+sLn s > bU x.bf then y+sLn s else bU x.bf),bL x.bf):=ea
 refine ⟨rfl,{ bd:=?_,cl:=fun q hq=>?_,ch:=?_,ag:=fun t ht=>h.ag t (by simp at ht ⊢;exact .inr ht),out:=h.out,wn:=?_,ms:=h.ms,lm:=?_ },?_,?_,rfl⟩
 ·show (SockL.toldS x now (y+sLn s) []).bd.1.map _=_
  rw [hb2]
  have hb:=h.bd
  rw [hl] at hb
  have hb:(p :: m).map (fun p=>(pFrom p,pTo p))=(s :: ss).map (fun s=>(sFr s,sFr s+sLn s)):=hb
  rw [List.map_cons,List.map_cons,List.cons.injEq] at hb
  exact hb.2
 ·have hq:q∈(SockL.toldS x now (y+sLn s) []).bd.1:=hq
  rw [hb2] at hq
  exact hkm q hq
 ·show chain _ _ (bN (SockL.toldS x now (y+sLn s) []).bf)
  rw [hf2];exact hc.2
 ·show 0 < (BbrMm.mUpd (SockL.toldS x now (y+sLn s) []).md _ _).win
  refine Int.lt_of_lt_of_le ?_ (hfl _ _).1
  show 0 < 4 * x.md.mss
  omega
 ·show bL (SockL.toldS x now (y+sLn s) []).bf=_
  rw [hf2];exact h.lm
 ·show bW (SockL.toldS x now (y+sLn s) []).bf=_
  rw [hf2]
 ·show bN (SockL.toldS x now (y+sLn s) []).bf=_
  rw [hf2]
end EgZa

namespace EgZb
open Arith ArithC TreeF FqM FqC SockC EgM EgA EgB EgC EgD EgE EgF EgG EgH EgJ EgK EgL EgO EgP EgQ EgW EgY EgZa
open SockM (Sk emitS doneS writeS loseS newS skFl skTso mayS)
open SockV (IvB)
open SockA (bW bN bU bL)
def SoonM (M:Int) (q:Qm):Prop:=∀ j f,q.fl j=some f→f.nx≤M∧∀ s∈f.sg,sSt s≤M
theorem SoonM.le {M N:Int} {q:Qm} (h:SoonM M q) (hm:M≤N):SoonM N q:=fun j f hf=>⟨Int.le_trans (h j f hf).1 hm,fun s hs=>Int.le_trans ((h j f hf).2 s hs) hm⟩
theorem soonM_coll {M:Int} {q:Qm} (h:SoonM M q) (t:Int):SoonM M (collectF q t):=by
 intro j f hf
 have hf:(if _ then none else q.fl j)=some f:=hf
 split at hf
 ·cases hf
 ·exact h j f hf
theorem soonM_enq {M:Int} (hM:0≤M) {q:Qm} (h:SoonM M q) {g:Sg} (hg:sSt g≤M) (t:Int):SoonM M (enqF q g t).2:=by
 unfold enqF
 split
 ·exact h
 ·split
  ·exact h
  ·split
   ·rw [FqM.add_eq]
    intro j f hf
    have hf:FqM.upF (collectF q t).fl (sK g).toNat (some { woken (collectF q t) (sK g).toNat t with sg:=(woken (collectF q t) (sK g).toNat t).sg++[drawn q g t] }) j=some f:=hf
    by_cases e:j=(sK g).toNat
    ·rw [e,FqM.upF_same] at hf
     cases hf
     have hd:sSt (drawn q g t)≤M:=by
      show (if _ then _ else sSt g)≤M
      split
      ·omega
      ·exact hg
     refine ⟨?_,fun s hs=>?_⟩
     ·show (woken (collectF q t) (sK g).toNat t).nx≤M
      unfold woken
      split
      ·exact hM
      ·rename_i f hf
       split
       ·exact (soonM_coll h t _ f hf).1
       ·exact (soonM_coll h t _ f hf).1
     ·have hs:s∈(woken (collectF q t) (sK g).toNat t).sg++[drawn q g t]:=hs
      rw [List.mem_append,List.mem_singleton] at hs
      rcases hs with hs | hs
      ·rw [FqM.woken_sg] at hs
       split at hs
       ·cases hs
       ·rename_i f hf;exact (soonM_coll h t _ f hf).2 s hs
      ·rw [hs];exact hd
    ·rw [FqM.upF_ne _ _ e] at hf
     exact soonM_coll h t j f hf
   ·exact soonM_coll h t
theorem enq_c (q:Qm) (g:Sg) (t:Int):(enqF q g t).2.c=q.c:=by
 unfold enqF
 split
 ·rfl
 ·split
  ·rfl
  ·split
   ·rw [FqM.add_eq]
   ·rfl
structure Pk (y:Int) (pre:List Sg) (M a w:Int) (x:Sk) (q:Qm) (ss:List Sg):Prop where
 lk:Lk y pre x ss
 q2:sgO (q.fl 2)=ss
 qo:∀ j,j≠2→sgO (q.fl j)=[]
 cf:cL q.c=512∧cW q.c=512∧cD q.c=false
 ln:(pre.length:Int)+(ss.length:Int)≤a
 g:1000 * a≤bN x.bf+1000 * w - (if bN x.bf < bW x.bf then 1000 else 0)
 bw:bN x.bf≤bW x.bf∧bW x.bf≤20000 * w∧w≤6
 nx:x.nx≤M
 t:SoonM M q
theorem Pk.a_le {y M a w:Int} {pre ss:List Sg} {x:Sk} {q:Qm} (h:Pk y pre M a w x q ss):a≤126:=by
 have:=h.g;have:=h.bw
 split at *<;>omega
theorem delay_le (n r:Int):FqM.delayI n r≤1000000000:=by
 unfold FqM.delayI
 split
 ·decide
 ·split<;>omega
theorem enter_pk {K y M a w now:Int} {pre ss:List Sg} {s:Pm} (hs:OkPm K 2 s) (h:Pk y pre M a w s.v s.q ss) (hM:0≤M) (hn:U now) (hnm:now≤M) (he:(emitS s.v now).1.2=0) :
  (enter 2 now s).2=0∧(∃ g,Pk y pre (M+1000000000) (a+1) w (enter 2 now s).1.v (enter 2 now s).1.q (ss++[g]))∧(enter 2 now s).1.o=s.o∧bW (enter 2 now s).1.v.bf=bW s.v.bf:=by
 have hw:=went_of hs.v hn he
 have hg1:sK (emitS s.v now).1.1=2:=hw.id.trans hs.id
 have hg2:1≤sLn (emitS s.v now).1.1∧sLn (emitS s.v now).1.1≤65536:=hw.n
 obtain ⟨k1,k2,k3,k4,k5⟩:=emit_lk h.lk hs.v hn he
 have hst:sSt (emitS s.v now).1.1≤M:=by
  have e:sSt (emitS s.v now).1.1=if s.v.nx > now then s.v.nx else now:=hw.st
  rw [e]
  have:=h.nx
  split<;>omega
 have hnx:(emitS s.v now).2.nx≤M+1000000000:=by
  rw [hw.nx]
  have e:=hw.st
  have d:=delay_le (SockQ.gN (emitS s.v now).1.1) s.v.md.rate
  have e3:SockQ.gS (emitS s.v now).1.1≤M:=hst
  have ad:∀ p q:Int,addI p q≤p+q:=fun p q=>by unfold addI;split<;>omega
  have:=ad (SockQ.gS (emitS s.v now).1.1) (FqM.delayI (SockQ.gN (emitS s.v now).1.1) s.v.md.rate)
  have e4:addI (SockQ.gS (emitS s.v now).1.1) (Delays.delayI (SockQ.gN (emitS s.v now).1.1) s.v.md.rate)=addI (SockQ.gS (emitS s.v now).1.1) (FqM.delayI (SockQ.gN (emitS s.v now).1.1) s.v.md.rate):=rfl
  rw [e4];omega
 obtain ⟨g,hg⟩:∃ g,g=(emitS s.v now).1.1:=⟨_,rfl⟩
 rw [← hg] at hg1 hg2 k1 k2 k4 k5 hst
 have hss:ss.length < 512:=by have:=h.a_le;have:=h.ln;omega
 have hfate:fateF (collectF s.q now) g now=0:=by
  have a1:¬ ((collectF s.q now).n ≥ cL (collectF s.q now).c):=by
   show ¬ (s.q.n ≥ cL s.q.c)
   rw [h.cf.1,hs.q.n,tot_one s.q.fl (i:=2) (by omega) h.qo,h.q2];omega
  have a2:¬ (∃ f,(collectF s.q now).fl (sK g).toNat=some f∧(f.sg.length:Int) ≥ cW (collectF s.q now).c):=by
   rintro ⟨f,hf,hc⟩
   have e:sgO ((collectF s.q now).fl (sK g).toNat)=sgO (s.q.fl (sK g).toNat):=coll_sg s.q now _
   rw [hf,show (sK g).toNat=2 by omega,h.q2] at e
   have e:f.sg=ss:=e
   have hc:(f.sg.length:Int) ≥ cW s.q.c:=hc
   rw [e,h.cf.2.1] at hc
   omega
  have a3:¬ (sSt g > addI now (cH (collectF s.q now).c)∧cD (collectF s.q now).c=true):=by
   rintro ⟨_,c⟩
   have c:cD s.q.c=true:=c
   rw [h.cf.2.2] at c;cases c
  unfold fateF
  rw [if_neg a1,if_neg a2,if_neg a3]
 have h0:(enqF s.q g now).1=(0,0):=by
  unfold enqF
  rw [if_neg (fun c=>c (by omega)),if_neg (fun c=>c hg2),if_pos hfate]
 have een:enter 2 now s=(⟨(emitS s.v now).2,(enqF s.q g now).2,(noteL s.l 2 0).2,s.o⟩,0):=by
  rw [hg] at h0
  unfold enter
  dsimp only
  rw [if_pos (by rw [h0]),hg]
 rw [een]
 rcases enq_sg s.q g now (by omega) hg2 with ⟨_,h2⟩ | ⟨h1,_⟩
 rotate_left
 ·exfalso
  rw [h0] at h1
  rcases h1 with h | h | h<;>cases h
 have hg2n:(sK g).toNat=2:=by omega
 refine ⟨rfl,⟨drawn s.q g now,{ lk:=k1 _ rfl rfl ?_,q2:=?_,qo:=fun j hj=>?_,cf:=by rw [enq_c];exact h.cf,ln:=?_,g:=?_,bw:=?_,nx:=hnx,t:=(soonM_enq hM h.t hst now).le (by omega) }⟩,rfl,k3⟩
 ·show sAg g=false
  exact k2
 ·show sgO ((enqF s.q g now).2.fl 2)=_
  rw [h2,hg2n,if_pos rfl,h.q2]
 ·show sgO ((enqF s.q g now).2.fl j)=_
  rw [h2,hg2n,if_neg hj,h.qo j hj];rfl
 ·rw [List.length_append,List.length_singleton]
  have:=h.ln
  omega
 ·show 1000 * (a+1)≤bN (emitS s.v now).2.bf+1000 * w - (if bN (emitS s.v now).2.bf < bW (emitS s.v now).2.bf then 1000 else 0)
  have hg0:=h.g
  have hb:=h.bw
  have hiv:=(hs.v.i.emit hn).ok.bf.nw
  rw [k3,k4]
  rw [k4] at k5 hiv
  rw [k3] at hiv
  by_cases c1:bN s.v.bf < bW s.v.bf
  ·rw [if_pos c1] at hg0
   by_cases c2:bN s.v.bf+sLn g < bW s.v.bf
   ·rw [if_pos c2];omega
   ·rw [if_neg c2];omega
  ·exfalso;omega
 ·show bN (emitS s.v now).2.bf≤bW (emitS s.v now).2.bf∧bW (emitS s.v now).2.bf≤20000 * w∧w≤6
  have hiv:=(hs.v.i.emit hn).ok.bf.nw
  have hb:=h.bw
  rw [k3] at hiv ⊢
  exact ⟨hiv,hb.2.1,hb.2.2⟩
end EgZb

namespace EgZc
open Arith ArithC TreeF FqM FqC SockC EgM EgA EgB EgC EgD EgE EgF EgG EgH EgJ EgK EgL EgO EgP EgQ EgW EgY EgZa EgZb
open SockM (Sk emitS doneS writeS loseS newS skFl skTso mayS)
open SockV (IvB)
open SockA (bW bN bU bL)
theorem may_0 {K y M a w:Int} {x:Sk} {q:Qm} (h:Pk y [] M a w x q []) (hx:IvB K x) (hn:bN x.bf≠bW x.bf):(mayS x).1=0:=by
 have hlo:=lost_none fun p hp=>(h.lk.cl p hp).2
 have hb:x.bd.1=[]:=by
  have:=h.lk.bd
  cases hq:x.bd.1 with
  | nil=>rfl
  | cons p l=>rw [hq] at this;cases this
 have hf:skFl x=0:=lk_flight h.lk hx
 have ho:x.out=0:=h.lk.out
 have ht:=tso_2 (rate:=x.md.rate) h.lk.ms
 have ht2:1000≤skTso x:=ht
 have hbl:0 < SockB.belowF x.md.rate (skTso x) x.cap:=by
  unfold SockB.belowF SockB.longI
  split<;>split<;>omega
 have a1:¬ ((Board.lostF x.bd.1).2=false∧bW x.bf - bN x.bf=0):=by rintro ⟨_,c⟩;omega
 have a2:¬ ¬ (skFl x < x.md.win∧x.out < SockB.belowF x.md.rate (skTso x) x.cap):=by rw [hf,ho];exact fun c=>c ⟨h.lk.wn,hbl⟩
 have a3:¬ ((Board.lostF x.bd.1).2=false∧(x.bd.1.length:Int) ≥ 4096):=by rw [hb];show ¬ (_∧(0:Int) ≥ 4096);omega
 unfold mayS
 rw [if_neg a1,if_neg a2,if_neg a3]
theorem pk_same {y M a w:Int} {pre ss:List Sg} {x x':Sk} {q:Qm} (h:Pk y pre M a w x q ss) (hs:SockQ.SameB x' x):Pk y pre M a w x' q ss where
 lk:={ bd:=by rw [hs.bd];exact h.lk.bd,cl:=by rw [hs.bd];exact h.lk.cl,ch:=by rw [hs.bf];exact h.lk.ch,ag:=h.lk.ag,out:=by rw [hs.out];exact h.lk.out,wn:=by rw [hs.md];exact h.lk.wn,ms:=by rw [hs.mss];exact h.lk.ms,lm:=by rw [hs.bf];exact h.lk.lm }
 q2:=h.q2
 qo:=h.qo
 cf:=h.cf
 ln:=h.ln
 g:=by rw [hs.bf];exact h.g
 bw:=by rw [hs.bf];exact h.bw
 nx:=by rw [hs.nx];exact h.nx
 t:=h.t
theorem pumpN_pk {K y now w:Int} {pre:List Sg} (hn:U now):∀ (n:Nat) (s:Pm) (M a:Int) (ss:List Sg),fresh s.v < n→OkPm K 2 s→0≤M→now≤M→Pk y pre M a w s.v s.q ss →
  ∃ (a':Int) (t:List Sg),(t.length:Int)=a' - a∧Pk y pre (M+1000000000 * (a' - a)) a' w (pumpN 2 now n s).v (pumpN 2 now n s).q (ss++t)∧(pumpN 2 now n s).o=s.o∧bW (pumpN 2 now n s).v.bf=bW s.v.bf ∧
   (bN (pumpN 2 now n s).v.bf=bW (pumpN 2 now n s).v.bf∨ss++t≠[]∨pre≠[])
 | 0,s,M,a,ss,hf,_,_,_,_=>by omega
 | n+1,s,M,a,ss,hf,hs,hM,hnm,h=>by
  unfold pumpN
  by_cases he:(emitS s.v now).1.2=0
  ·rw [if_neg (fun c=>c he)]
   obtain ⟨e1,⟨g,e2⟩,e3,e4⟩:=enter_pk hs h hM hn hnm he
   obtain ⟨o1,o2⟩:=enter_ok hs hn he
   rw [if_pos e1]
   obtain ⟨a',t,p1,p2,p3,p4,p5⟩:=pumpN_pk hn n (enter 2 now s).1 (M+1000000000) (a+1) (ss++[g]) (by omega) o1 (by omega) (by omega) e2
   refine ⟨a',g :: t,by rw [List.length_cons];omega,?_,p3.trans e3,p4.trans e4,?_⟩
   ·rw [List.append_assoc] at p2
    rw [show M+1000000000 * (a' - a)=M+1000000000+1000000000 * (a' - (a+1)) by omega]
    exact p2
   ·rw [List.append_assoc] at p5
    exact p5
  ·rw [if_pos he]
   obtain ⟨n1,n2,n3⟩:=SockQ.emit_no he
   refine ⟨a,[],by simp,?_,rfl,by show bW (emitS s.v now).2.bf=_;rw [n2.bf],?_⟩
   ·rw [List.append_nil,show M+1000000000 * (a - a)=M by omega]
    exact pk_same h n2
   ·rw [List.append_nil]
    show bN (emitS s.v now).2.bf=bW (emitS s.v now).2.bf∨_
    rw [n2.bf]
    by_cases c1:bN s.v.bf=bW s.v.bf
    ·exact .inl c1
    ·right
     cases hss:ss with
     | cons p l=>exact .inl (by simp)
     | nil =>
      right
      intro hp
      rw [hss,hp] at h
      have:=may_0 h hs.v c1
      rw [n3] at he
      exact he this
structure Mk (y a w T δ:Int) (v:Mc) (ss:List Sg):Prop where
 x:∃ x,v.so 2=some x∧Pk y [] (1000000000 * (a+δ)) a w x v.q ss∧bW x.bf=T∧(bN x.bf=bW x.bf∨ss≠[])
 now:v.now≤1000000000 * (a+δ)
 d:δ+(ss.length:Int)=a
 d0:0≤δ
theorem pump_mk {K y a w δ:Int} {pre ss:List Sg} {v:Mc} {x:Sk} (hx:IvB K x) (hid:x.id=2) (hq:OkQ v.q) (hn:U v.now) (h:Pk y pre (1000000000 * (a+δ)) a w x v.q ss) (ha:0≤a) (hd:0≤δ) (hnm:v.now≤1000000000 * (a+δ)) :
  ∃ (a':Int) (t:List Sg) (x':Sk),(t.length:Int)=a' - a∧(pumpM v 2 x ou0).2.so 2=some x'∧Pk y pre (1000000000 * (a'+δ)) a' w x' (pumpM v 2 x ou0).2.q (ss++t)∧bW x'.bf=bW x.bf∧(bN x'.bf=bW x'.bf∨ss++t≠[]∨pre≠[])∧(pumpM v 2 x ou0).2.now=v.now∧(pumpM v 2 x ou0).1=ou0:=by
 have hs:OkPm K 2 ⟨x,v.q,v.l,ou0⟩:=⟨hx,hid,hq⟩
 obtain ⟨a',t,p1,p2,p3,p4,p5⟩:=pumpN_pk hn (fresh x+1) ⟨x,v.q,v.l,ou0⟩ (1000000000 * (a+δ)) a ss (Nat.lt_succ_self _) hs (by omega) hnm h
 refine ⟨a',t,(pumpN 2 v.now (fresh x+1) ⟨x,v.q,v.l,ou0⟩).v,p1,?_,?_,p4,p5,rfl,p3⟩
 ·show EgM.upL v.so 2 (some (pumpF ((2:Nat):Int) v.now ⟨x,v.q,v.l,ou0⟩).v) 2=_
  rw [EgM.upL_same];rfl
 rw [show 1000000000 * (a'+δ)=1000000000 * (a+δ)+1000000000 * (a' - a) by omega]
 exact p2
theorem send_mk {K y a w T δ n:Int} {v:Mc} {ss:List Sg} (h:Mk y a w T δ v ss) (hv:OkMc K v) (hK:K < 900000) (hn:1≤n∧n≤20000) (hw:w < 6) (hw0:0≤w) (ha:0≤a) :
  ∃ (a':Int) (ss':List Sg),Mk y a' (w+1) (T+n) δ (doF v (dOne 2 2 n) []).2 ss'∧0≤a':=by
 obtain ⟨x,hx,hp,hT,_⟩:=h.x
 obtain ⟨i1,i2,_⟩:=hv.so 2 x hx
 have hb:=hp.bw
 have hu:=i1.i.ok.bf.u
 have hwe:writeS x n=(0,{ x with bf:=(bW x.bf+n,bN x.bf,bU x.bf,bL x.bf) }):=by
  unfold writeS SockA.wrF
  rw [if_neg (by omega),if_neg (by rw [hp.lk.lm];omega)]
 have told:=EgF.told_ok i1 (by omega) hv.un (dOne 2 2 n) []
 have et:(toldF x v.now (dOne 2 2 n) []).2=(writeS x n).2:=rfl
 rw [et,hwe] at told
 have hse:=send_eq v (s:=2) (by decide) (x:=x) hx (n:=n) (by rw [hwe])
 rw [hwe] at hse
 have hp2:Pk y [] (1000000000 * (a+δ)) a (w+1) { x with bf:=(bW x.bf+n,bN x.bf,bU x.bf,bL x.bf) } v.q ss:={
  lk:={ bd:=hp.lk.bd,cl:=hp.lk.cl,ch:=hp.lk.ch,ag:=hp.lk.ag,out:=hp.lk.out,wn:=hp.lk.wn,ms:=hp.lk.ms,lm:=hp.lk.lm }
  q2:=hp.q2
  qo:=hp.qo
  cf:=hp.cf
  ln:=hp.ln
  g:=by
   have:=hp.g
   show 1000 * a≤bN x.bf+1000 * (w+1) - (if bN x.bf < bW x.bf+n then 1000 else 0)
   split at this<;>split<;>omega
  bw:=⟨by show bN x.bf≤bW x.bf+n;omega,by show bW x.bf+n≤20000 * (w+1);omega,by omega⟩
  nx:=hp.nx
  t:=hp.t }
 obtain ⟨a',t,x',q1,q2,q3,q4,q5,q6,_⟩:=pump_mk told.1 (told.2.trans i2) hv.q hv.un hp2 ha h.d0 h.now
 rw [hse]
 have hd:=h.d
 have hnw:=h.now
 refine ⟨a',ss++t,{ x:=⟨x',q2,q3,by rw [q4];show bW x.bf+n=T+n;rw [hT],?_⟩,now:=?_,d:=by rw [List.length_append];omega,d0:=h.d0 },by omega⟩
 ·rcases q5 with c | c | c
  ·exact .inl c
  ·exact .inr c
  ·exact absurd rfl c
 ·show (pumpM v (2:Int).toNat _ ou0).2.now≤_
  rw [show (2:Int).toNat=2 from rfl,q6];omega
end EgZc

namespace EgZd
open Arith ArithC TreeF FqM FqC SockC EgM EgA EgB EgC EgD EgE EgF EgG EgH EgJ EgK EgL EgO EgP EgQ EgW EgY EgZa EgZb EgZc
open SockM (Sk emitS doneS writeS loseS newS skFl skTso mayS)
open SockV (IvB)
open SockA (bW bN bU bL)
theorem told_eq (v:Mc) {d:Dd} {xs:List (Int × Int)} {x:Sk} (hk:dK d=2∨dK d=3∨dK d=4∨dK d=7) (hs:dS d=2) (h:v.so 2=some x) (ht:(toldF x v.now d xs).1=0):doF v d xs=(((pumpM v 2 (toldF x v.now d xs).2 ou0).1,0),(pumpM v 2 (toldF x v.now d xs).2 ou0).2):=by
 have e:stepM v d xs=(0,(pumpM v 2 (toldF x v.now d xs).2 ou0).1,(pumpM v 2 (toldF x v.now d xs).2 ou0).2):=by
  have ho:isOne (dK d)=true:=by rcases hk with h | h | h | h<;>rw [h]<;>rfl
  unfold stepM
  rw [if_neg (by omega),if_neg (by omega),if_neg (by omega),if_pos ho]
  unfold oneM
  rw [if_neg (fun c=>c (by omega))]
  have h2:v.so (dS d).toNat=some x:=by rw [hs];exact h
  have e2:(dS d).toNat=2:=by rw [hs];rfl
  rw [h2]
  dsimp only
  rw [if_neg (by omega),if_neg (by omega),if_pos ht,e2]
 unfold doF
 rw [e]
 rfl
abbrev dAck (u:Int):Dd:=(3,2,0,u,0,⟨none,0,0⟩,0,0,0,0,0,0,false,0,0)
theorem dAck_ok {u:Int} (h:U u):OkD (dAck u):=⟨(by decide:(0:Int) < 9223372036854775808),h,U_lit 0,(by decide:(0:Int)≤0),U_lit 0⟩
theorem soonM_same {M:Int} {q u:Qm} (h:SoonM M q) (hs:FqQ.Same q u):SoonM M u:=fun j f hf=>by
 obtain ⟨g,hg,h1,h2,_⟩:=hs.sym.to hf
 have:=h j g hg
 rw [h1,h2] at this
 exact this
theorem depart_mk {K y a w T δ:Int} {v:Mc} {ss:List Sg} (h:Mk y a w T δ v ss) (hv:OkMc K v) (hK:K < 900000) (ha:0≤a) (hdue:(deqF v.q v.now (ratesF v.so)).1.isSome=true) :
  ∃ (s:Sg) (l:List Sg),ss=s :: l∧(pullF v ou0).1.dep=[s]∧sFr s=y∧sAg s=false∧sK s=2∧(1≤sLn s∧sLn s≤65536)∧(0≤y∧y+sLn s≤T) ∧
   ∃ (a':Int) (ss':List Sg),Mk (y+sLn s) a' w T (δ+1) (doF (doF (pullF v ou0).2 (dOne 7 2 (sLn s)) []).2 (dAck (y+sLn s)) []).2 ss'∧0≤a'∧(doF (doF (pullF v ou0).2 (dOne 7 2 (sLn s)) []).2 (dAck (y+sLn s)) []).2.now=v.now:=by
 obtain ⟨x,hx,hp,hT,_⟩:=h.x
 obtain ⟨i1,i2,_⟩:=hv.so 2 x hx
 obtain ⟨u,hu,hc⟩:=FqQ.ran hv.q hv.un (rates_U hv)
 rcases hc with ⟨_,he⟩ | ⟨i,f,s,l,hA,hcr,hsg,htf,he⟩
 ·rw [he] at hdue;cases hdue
 have hi8:i < 8:=hA.lt
 have hvi:sgO (v.q.fl i)=s :: l:=by rw [← same_sg hu.same i,hA.fl];exact hsg
 have hi2:i=2:=by
  by_cases c:i=2
  ·exact c
  ·rw [hp.qo i c] at hvi;cases hvi
 subst hi2
 have hss:ss=s :: l:=by rw [← hp.q2];exact hvi
 subst hss
 obtain ⟨q',hq'⟩:∃ q',q'=FqM.sentF u 2 f s v.now (rateA (ratesF v.so) 2):=⟨_,rfl⟩
 have hqf:∀ j,j≠2→q'.fl j=u.fl j:=fun j hj=>by rw [hq'];show FqM.upF u.fl 2 _ j=_;rw [FqM.upF_ne _ _ hj]
 have hq2:sgO (q'.fl 2)=l:=by
  rw [hq']
  show sgO (FqM.upF u.fl 2 _ 2)=l
  rw [FqM.upF_same]
  show f.sg.tail=l
  rw [hsg];rfl
 have hqc:q'.c=v.q.c:=by rw [hq'];exact hu.c
 rw [← hq'] at he
 have ep:pullF v ou0=({ ou0 with dep:=[s] },{ v with q:=q',l:=(noteL v.l (sK s) 1).2 }):=by unfold pullF;rw [he]
 have hOs:=(hu.ok.fl 2 f hA.fl).2.sg s (by rw [hsg];simp)
 have hch:chain y (s :: l) (bN x.bf):=hp.lk.ch
 have hs1:=hch.1
 have hcl:=(chain_le hch).2 s (List.mem_cons_self ..)
 have hbu:=i1.i.ok.bf
 have hnwT:=hp.bw
 have hd:=h.d
 have hd0:=h.d0
 have hnow:=h.now
 rw [List.length_cons] at hd
 have hsoon:=soonM_same hp.t hu.same
 have hsq:SoonM (1000000000 * (a+(δ+1))) q':=fun j g hg=>by
  by_cases e:j=2
  ·rw [e,hq'] at hg
   have hg:FqM.upF u.fl 2 _ 2=some g:=hg
   rw [FqM.upF_same] at hg
   cases hg
   obtain ⟨b1,b2⟩:=hsoon 2 f hA.fl
   refine ⟨?_,fun t ht=>?_⟩
   ·show addI v.now (FqM.delayI (sLn s) _)≤_
    have d1:=delay_le (sLn s) (lessI (rateA (ratesF v.so) 2) (cR u.c))
    have ad:∀ p q:Int,addI p q≤p+q:=fun p q=>by unfold addI;split<;>omega
    have:=ad v.now (FqM.delayI (sLn s) (lessI (rateA (ratesF v.so) 2) (cR u.c)))
    omega
   ·have:=b2 t (List.mem_of_mem_tail ht)
    omega
  ·rw [hqf j e] at hg
   have:=hsoon j g hg
   exact ⟨by omega,fun t ht=>by have:=this.2 t ht;omega⟩
 have hyb:0≤y:=by
  have e:=hOs.2.fr
  unfold U at e
  rw [← hs1.1];exact e.1
 refine ⟨s,l,rfl,by rw [ep],hs1.1,hp.lk.ag s (List.mem_cons_self ..),hOs.1,?_,⟨hyb,?_⟩,?_⟩
 ·exact hOs.2.ln
 ·rw [← hT];omega
 ·have o1:=do_ok hv (by omega) dPull_ok []
  rw [pull_eq,ep] at o1
  rw [ep]
  dsimp only at o1 ⊢
  obtain ⟨v1,hv1⟩:∃ v1:Mc,v1={ v with q:=q',l:=(noteL v.l (sK s) 1).2 }:=⟨_,rfl⟩
  rw [← hv1] at o1 ⊢
  have x1:v1.so 2=some x:=by rw [hv1];exact hx
  have n1:v1.now=v.now:=by rw [hv1]
  have q1:v1.q=q':=by rw [hv1]
  obtain ⟨d1,d2,d3,d4⟩:=done_lk hp.lk
  have sl:sLn s < 9223372036854775808:=by omega
  have o2:=do_ok o1 (by omega) (dOne_ok 7 2 (sLn s) sl) []
  have told1:=EgF.told_ok i1 (k:=K) (by omega) hv.un (dOne 7 2 (sLn s)) []
  have et:toldF x v1.now (dOne 7 2 (sLn s)) []=doneS x (sLn s):=rfl
  have et':toldF x v.now (dOne 7 2 (sLn s)) []=doneS x (sLn s):=rfl
  have te:=told_eq v1 (d:=dOne 7 2 (sLn s)) (xs:=[]) (.inr (.inr (.inr rfl))) rfl x1 (by rw [et];exact d1)
  rw [et] at te
  rw [et'] at told1
  have p1:Pk y [s] (1000000000 * (a+(δ+1))) a w (doneS x (sLn s)).2 v1.q l:={
   lk:=d2
   q2:=by rw [q1];exact hq2
   qo:=fun j hj=>by rw [q1,hqf j hj,same_sg hu.same j];exact hp.qo j hj
   cf:=by rw [q1,hqc];exact hp.cf
   ln:=by have:=hp.ln;rw [List.length_cons] at this;simp only [List.length_singleton,List.length_nil] at this ⊢;omega
   g:=by rw [d3];exact hp.g
   bw:=by rw [d3];exact hp.bw
   nx:=by rw [d4];have:=hp.nx;omega
   t:=by rw [q1];exact hsq }
  obtain ⟨a1,t1,x2,r1,r2,r3,r4,r5,r6,_⟩:=pump_mk told1.1 (told1.2.trans i2) o1.q o1.un p1 ha (by omega) (by rw [n1];omega)
  rw [te] at o2 ⊢
  dsimp only at o2 ⊢
  obtain ⟨v2,hv2⟩:∃ v2:Mc,v2=(pumpM v1 2 (doneS x (sLn s)).2 ou0).2:=⟨_,rfl⟩
  rw [← hv2] at o2 r2 r3 r6 ⊢
  obtain ⟨j1,j2,_⟩:=o2.so 2 x2 r2
  obtain ⟨k1,k2,k3,k4,k5⟩:=ack_lk (now:=v2.now) r3.lk j1
  have told2:=EgF.told_ok j1 (by omega) o2.un (dAck (y+sLn s)) []
  have eu:toldF x2 v2.now (dAck (y+sLn s)) []=SockL.ackS x2 v2.now (y+sLn s) []:=rfl
  have te2:=told_eq v2 (d:=dAck (y+sLn s)) (xs:=[]) (.inr (.inl rfl)) rfl r2 (by rw [eu];exact k1)
  rw [eu] at te2 told2
  have p2:Pk (y+sLn s) [] (1000000000 * (a1+(δ+1))) a1 w (SockL.ackS x2 v2.now (y+sLn s) []).2 v2.q (l++t1):={
   lk:=k2
   q2:=r3.q2
   qo:=r3.qo
   cf:=r3.cf
   ln:=by have:=r3.ln;simp only [List.length_singleton,List.length_nil] at this ⊢;omega
   g:=by rw [k3,k4];exact r3.g
   bw:=by rw [k3,k4];exact r3.bw
   nx:=by rw [k5];exact r3.nx
   t:=r3.t }
  obtain ⟨a2,t2,x3,s1,s2,s3,s4,s5,s6,_⟩:=pump_mk told2.1 (told2.2.trans j2) o2.q o2.un p2 (by omega) (by omega) (by rw [r6,n1];omega)
  rw [te2]
  dsimp only
  refine ⟨a2,(l++t1)++t2,{ x:=⟨x3,s2,s3,by rw [s4,k3,r4,d3];exact hT,?_⟩,now:=by rw [s6,r6,n1];omega,d:=by rw [List.length_append,List.length_append];omega,d0:=by omega },by omega,by rw [s6,r6,n1]⟩
  rcases s5 with c | c | c
  ·exact .inl c
  ·exact .inr c
  ·exact absurd rfl c
theorem none_mk {K y a w T δ:Int} {v:Mc} {ss:List Sg} (h:Mk y a w T δ v ss) (hv:OkMc K v) (hd:(deqF v.q v.now (ratesF v.so)).1.isSome=false) :
  (pullF v ou0).1.dep=[]∧Mk y a w T δ (pullF v ou0).2 ss∧(pullF v ou0).2.now=v.now∧(((pullF v ou0).1.wd=0∧ss=[]) ∨
   ((v.now < (pullF v ou0).1.wd∧(pullF v ou0).1.wd≤1000000000 * (a+δ))∧(deqF (pullF v ou0).2.q (pullF v ou0).1.wd (ratesF (pullF v ou0).2.so)).1.isSome=true)):=by
 obtain ⟨x,hx,hp,hT,he0⟩:=h.x
 have hU:=rates_U hv
 obtain ⟨w1,w2,w3⟩:=FqQ.works hv.q hv.un hU
 obtain ⟨u,hu,hc⟩:=FqQ.ran hv.q hv.un hU
 rcases hc with ⟨_,he⟩ | ⟨i,f,s,l,hA,hcr,hsg,htf,he⟩
 rotate_left
 ·rw [he] at hd;cases hd
 rw [he] at w3 w1
 obtain ⟨m1,m2⟩:=w3 rfl
 dsimp only at m1 m2
 have w1:false=((FqQ.leastN v.q 8).2 && decide ((FqQ.leastN v.q 8).1≤v.now)):=w1
 have ep:pullF v ou0=(if (minF u.ks).2 then { ou0 with wd:=if 1 > (minF u.ks).1.1 then 1 else (minF u.ks).1.1 } else ou0,{ v with q:=u }):=by unfold pullF;rw [he]
 have hmk:Mk y a w T δ { v with q:=u } ss:={
  x:=⟨x,hx,{ lk:=hp.lk,q2:=by show sgO (u.fl 2)=_;rw [same_sg hu.same];exact hp.q2,qo:=fun j hj=>by show sgO (u.fl j)=_;rw [same_sg hu.same];exact hp.qo j hj,cf:=by show cL u.c=_∧cW u.c=_∧cD u.c=_;rw [hu.c];exact hp.cf,ln:=hp.ln,g:=hp.g,bw:=hp.bw,nx:=hp.nx,t:=soonM_same hp.t hu.same },hT,he0⟩
  now:=h.now
  d:=h.d
  d0:=h.d0 }
 rw [ep]
 refine ⟨by dsimp only;split<;>rfl,hmk,rfl,?_⟩
 obtain ⟨l1,l2⟩:=FqQ.least_spec v.q 8
 dsimp only
 cases hl:(FqQ.leastN v.q 8).2 with
 | false =>
  left
  rw [m1,hl]
  refine ⟨rfl,?_⟩
  rw [← hp.q2]
  cases hf:v.q.fl 2 with
  | none=>rfl
  | some f=>exact (l1 hl).2 2 f (by omega) hf
 | true =>
  right
  rw [m1,hl,if_pos rfl]
  obtain ⟨⟨i,f,hi8,hf,hfs,hft⟩,hle⟩:=l2 hl
  have hi2:i=2:=by
   by_cases c:i=2
   ·exact c
   ·have:=hp.qo i c
    rw [hf] at this
    exact absurd this hfs
  subst hi2
  have hmin:=m2 (by rw [m1,hl])
  rw [hl,Bool.true_and] at w1
  have hgt:¬ (FqQ.leastN v.q 8).1≤v.now:=fun c=>by rw [decide_eq_true c] at w1;cases w1
  have hn0:=hv.now
  have hwd:(if 1 > (minF u.ks).1.1 then 1 else (minF u.ks).1.1)=(FqQ.leastN v.q 8).1:=by rw [hmin,if_neg (by omega)]
  show (v.now < (if 1 > (minF u.ks).1.1 then 1 else (minF u.ks).1.1)∧(if 1 > (minF u.ks).1.1 then 1 else (minF u.ks).1.1)≤_)∧(deqF u (if 1 > (minF u.ks).1.1 then 1 else (minF u.ks).1.1) (ratesF v.so)).1.isSome=true
  rw [hwd]
  have htm:timeF f≤1000000000 * (a+δ):=by
   obtain ⟨b1,b2⟩:=hp.t 2 f hf
   unfold timeF
   cases hsg:f.sg with
   | nil=>exact absurd hsg hfs
   | cons g l =>
    have:=b2 g (by rw [hsg];simp)
    dsimp only
    split<;>omega
  refine ⟨⟨by omega,by omega⟩,?_⟩
  have hUt:U (FqQ.leastN v.q 8).1:=by
   rw [← hft]
   have hF:=(hv.q.fl 2 f hf).2
   unfold timeF
   cases hsg:f.sg with
   | nil=>exact hF.nx
   | cons g l =>
    have:=(hF.sg g (by rw [hsg];simp)).2.st
    dsimp only
    split
    ·exact this
    ·exact hF.nx
  obtain ⟨v1,_,_⟩:=FqQ.works hu.ok hUt hU
  obtain ⟨k1,k2⟩:=FqQ.least_spec u 8
  obtain ⟨g,hg,_,hgs,hgt2⟩:=hu.same.to hf
  have hl2:(FqQ.leastN u 8).2=true:=by
   cases hc:(FqQ.leastN u 8).2 with
   | true=>rfl
   | false =>
    have:=(k1 hc).2 2 g (by omega) hg
    rw [hgs] at this
    exact absurd this hfs
  rw [v1,hl2,Bool.true_and,decide_eq_true_eq]
  have:=(k2 hl2).2 2 g (by omega) hg (by rw [hgs];exact hfs)
  omega
end EgZd

namespace EgZe
open Arith ArithC TreeF FqM FqC SockC EgM EgA EgB EgC EgD EgE EgF EgG EgH EgJ EgK EgL EgO EgP EgQ EgW EgY EgZa EgZb EgZc EgZd
open SockM (Sk emitS doneS writeS loseS newS skFl skTso mayS)
open SockV (IvB)
open SockA (bW bN bU bL)
abbrev drC (d:Cf) (m:Int):Cf:=(cQ d,cF d,512,512,cH d,cR d,false,cCap d,m)
theorem drC_may {d:Cf} {m:Int} (h:may d=true) (hm:500≤m∧m≤2499):may (drC d m)=true:=by
 unfold may at h ⊢
 simp only [Bool.and_eq_true,decide_eq_true_eq] at h ⊢
 exact ⟨h.1,h.2.1,⟨by show (1:Int)≤512;decide,by show (512:Int)≤512;decide⟩,⟨by show (1:Int)≤512;decide,by show (512:Int)≤512;decide⟩,h.2.2.2.2.1,h.2.2.2.2.2.1,⟨by show 100≤m;omega,by show m≤9000;omega⟩⟩
theorem start_mk {c:Cf} {m:Int} (hm:500≤m∧m≤2499):Mk 0 0 0 0 0 (doF (newM (drC c m)) (dOne 1 2 0) []).2 []:=by
 rw [open_eq (newM (drC c m)) (s:=2) (by decide) rfl]
 have hc:SockB.clampM m=m:=by unfold SockB.clampM;(repeat' split)<;>omega
 have hmm:BbrMm.mMss m=m:=by unfold BbrMm.mMss;(repeat' split)<;>omega
 refine { x:=⟨newS 2 m (cCap c),rfl,{ lk:={ bd:=rfl,cl:=fun p hp=>(by cases hp),ch:=rfl,ag:=fun s hs=>(by cases hs),out:=rfl,wn:=?_,ms:=?_,lm:=rfl },q2:=rfl,qo:=fun _ _=>rfl,cf:=⟨rfl,rfl,rfl⟩,ln:=Int.le_refl 0,g:=by show (1000:Int) * 0≤0+1000 * 0 - (if (0:Int) < 0 then 1000 else 0);decide,bw:=by show (0:Int)≤0∧(0:Int)≤20000 * 0∧(0:Int)≤6;decide,nx:=by show (0:Int)≤1000000000 * (0+0);decide,t:=fun j f hf=>(by cases hf) },rfl,.inl rfl⟩,now:=by show (0:Int)≤1000000000 * (0+0);decide,d:=rfl,d0:=Int.le_refl 0 }
 ·show 0 < 10 * BbrMm.mMss (SockB.clampM m)
  rw [hc,hmm];omega
 ·show 500≤SockB.clampM m∧SockB.clampM m≤9000
  rw [hc];omega
theorem dAt_eq (v:Mc) {t:Int} (h:v.now≤t∧t≤4611686018427387904):doF v (dAt t) []=((ou0,0),{ v with now:=t }):=by
 have hm:moveF v.now t=(0,t):=by unfold moveF;rw [if_neg (by omega),if_neg (by omega)]
 have e:stepM v (dAt t) []=(0,ou0,{ v with now:=t }):=by
  show ((moveF v.now t).1,ou0,({ v with now:=(moveF v.now t).2 }:Mc))=_
  rw [hm]
 unfold doF
 rw [e]
 rfl
theorem dAt_ok2 {t:Int} (h:U t):OkD (dAt t):=⟨(by decide:(0:Int) < 9223372036854775808),U_lit 0,h,(by decide:(0:Int)≤0),U_lit 0⟩
theorem mk_a {y a w T δ:Int} {v:Mc} {ss:List Sg} (h:Mk y a w T δ v ss):a≤126∧δ≤a∧T≤120000:=by
 obtain ⟨x,hx,hp,hT,_⟩:=h.x
 have:=hp.a_le
 have:=h.d
 have:=hp.bw
 omega
theorem mk_end {y a w T δ:Int} {v:Mc} (h:Mk y a w T δ v []) (hv:∃ K,OkMc K v):y=T∧v.q.n=0∧∃ x,v.so 2=some x∧x.out=0∧skFl x=0∧bW x.bf - bN x.bf=0:=by
 obtain ⟨x,hx,hp,hT,he⟩:=h.x
 obtain ⟨K,hv⟩:=hv
 have h1:bN x.bf=bW x.bf:=by
  rcases he with c | c
  ·exact c
  ·exact absurd rfl c
 have h2:y=bN x.bf:=hp.lk.ch
 refine ⟨by omega,?_,x,hx,hp.lk.out,lk_flight hp.lk (hv.so 2 x hx).1,by omega⟩
 rw [hv.q.n,tot_one v.q.fl (i:=2) (by omega) hp.qo,hp.q2];rfl
theorem drains_tri (d:Cf) (s:Sl) (xs:List Int) (am:Int) (hd:0≤cH d∧U (cR d)):Tri Tryz.prog N_cantertop_TopDrains [.agg (Ks.mk KC d),.lf (.sl s),.lf (.int .i64 am)] [.lf .bool] (rarr s KI xs) (fun r=>pur (r=true) emp) :=
 tri_0 (call_cantertop_TopDrains d s am) fun w0 S R h=>by
  unfold W_cantertop_TopDrains
  have hua:U (IntKind.u64.wrap am):=U_wrap am
  unfold U at hua
  obtain ⟨m,hm⟩:∃ m,m=IntKind.i64.wrap (500+IntKind.i64.wrap ((IntKind.u64.wrap am).tmod 2000)):=⟨_,rfl⟩
  have hmr:500≤m∧m≤2499:=by
   rw [hm,Int.tmod_eq_emod_of_nonneg hua.1,wi (n:=IntKind.u64.wrap am % 2000) (by omega) (by omega),wi (by omega) (by omega)];omega
  rw [← hm]
  have h:Own w0 S R w0 (rarr s KI xs):=h
  have hsl:=(h.rd (s:=s)).2
  obtain ⟨c1,hc1⟩:∃ c,c=FqI.configF d:=⟨_,rfl⟩
  have hcm:may c1=true:=by rw [hc1];exact FqI.config_may d
  have hco:OkC c1:=by rw [hc1];exact FqI.config_ok hd.1 hd.2
  have hdm:=drC_may hcm hmr
  have hdo:OkC (drC c1 m):=may_ok hdm hco.h.1 hco.r
  refine w_new h fun n1 w h=>w_ldAll (b:=n1) (x:=d) h rfl (w_call (FqI.config_tri d) (h.le ((star_emp _).trans (star_comm _ _))) fun r w h=>?_)
  obtain ⟨hr,h⟩:=h.purP;rw [hr,← hc1]
  refine w_setTo h n1 (Ks.mk KC c1) rfl rfl rfl fun w h=>?_
  refine w_setTo h n1 (Ks.mk KC (cQ c1,cF c1,512,cW c1,cH c1,cR c1,cD c1,cCap c1,cMss c1)) rfl rfl rfl fun w h=>?_
  refine w_setTo h n1 (Ks.mk KC (cQ c1,cF c1,512,512,cH c1,cR c1,cD c1,cCap c1,cMss c1)) rfl rfl rfl fun w h=>?_
  refine w_setTo h n1 (Ks.mk KC (cQ c1,cF c1,512,512,cH c1,cR c1,false,cCap c1,cMss c1)) rfl rfl rfl fun w h=>?_
  refine w_setTo h n1 (Ks.mk KC (drC c1 m)) rfl rfl rfl fun w h=>?_
  refine w_ldAll (b:=n1) (x:=drC c1 m) h rfl (w_call (EgE.new_tri (drC c1 m)) h fun r w h=>?_)
  obtain ⟨b,h⟩:=h.exP
  obtain ⟨hr,h⟩:=h.purP
  rw [if_pos hdm] at hr h
  rw [hr]
  refine w_call tawake_tri (h.le ((star_emp _).trans (star_comm _ _))) fun r w h=>?_
  obtain ⟨hr,h⟩:=h.purP;rw [hr]
  refine w_ite (fun c=>(by cases c)) fun _=>?_
  have o0:=new_ok hdo
  have o1:=do_ok o0 (by decide) (dOne_ok 1 2 0 (by decide)) []
  have mk0:=start_mk (c:=c1) hmr
  have h:Own w0 S R w (mach b (newM (drC c1 m))^rarr s KI xs):=h.fin
  refine w_do0 (d:=dOne 1 2 0) h o0 (by decide) (dOne_ok 1 2 0 (by decide)) rfl fun r w _ h=>?_
  obtain ⟨v0,hv0⟩:∃ v0,v0=(doF (newM (drC c1 m)) (dOne 1 2 0) []).2:=⟨_,rfl⟩
  rw [← hv0] at h o1 mk0
  have h:Own w0 S R w (mach b v0^rarr s KI xs):=h.fin
  refine w_loopE (fun (_:Int × Int) (v:Mc)=>mach b v^rarr s KI xs) (fun (y:Int × Int) v=>(0≤y.2∧y.2≤6)∧OkMc (1+y.2) v∧∃ a ss,Mk 0 a y.2 y.1 0 v ss∧0≤a) (fun (y:Int × Int) _=>(6 - y.2).toNat) v0 h ⟨⟨Int.le_refl 0,by show (0:Int)≤6;decide⟩,o1,0,[],mk0,Int.le_refl 0⟩ ?_
  rintro K (y:Int × Int) v w ⟨hy,hv,a,ss,hmk,ha⟩ h next
  refine w_ite (fun c=>?_) fun _=>?_
  ·rw [Bool.and_eq_true,decide_eq_true_eq,decide_eq_true_eq] at c
   have hyl:y.2.toNat < xs.length:=by omega
   refine w_idx (s:=s) h hy.1 hyl (w_ldE h s y.2.toNat (y:=xs[y.2.toNat]) (List.getElem?_eq_getElem hyl) rfl ?_)
   have hx:U (IntKind.u64.wrap xs[y.2.toNat]):=U_wrap _
   unfold U at hx
   obtain ⟨n,hn⟩:∃ n,n=IntKind.i64.wrap (1+IntKind.i64.wrap ((IntKind.u64.wrap xs[y.2.toNat]).tmod 20000)):=⟨_,rfl⟩
   have hnr:1≤n∧n≤20000:=by
    rw [hn,Int.tmod_eq_emod_of_nonneg hx.1,wi (n:=IntKind.u64.wrap xs[y.2.toNat] % 20000) (by omega) (by omega),wi (by omega) (by omega)];omega
   rw [← hn]
   obtain ⟨a',ss',mk',ha'⟩:=send_mk hmk hv (by omega) hnr c.2 hy.1 ha
   have o2:=do_ok hv (by omega) (dOne_ok 2 2 n (by omega)) []
   refine w_do0 (d:=dOne 2 2 n) h hv (by omega) (dOne_ok 2 2 n (by omega)) rfl fun r w _ h=>?_
   have hT:=(mk_a mk').2.2
   have hT0:=(mk_a hmk).2.2
   have hTn:0≤y.1:=by
    obtain ⟨x,hx,hp,hT,_⟩:=hmk.x
    have:=(hv.so 2 x hx).1.i.ok.bf
    have h1:=this.u;have h2:=this.un;have h3:=this.nw
    omega
   have w1:IntKind.i64.wrap (y.1+n)=y.1+n:=wi (by omega) (by omega)
   have w2:IntKind.i64.wrap (y.2+1)=y.2+1:=wi (by omega) (by omega)
   rw [w1,w2]
   refine next (y.1+n,y.2+1) (doF v (dOne 2 2 n) []).2 w ⟨⟨by show 0≤y.2+1;omega,by show y.2+1≤6;omega⟩,?_,a',ss',mk',ha'⟩ h.fin (by show (6 - (y.2+1)).toNat < (6 - y.2).toNat;omega)
   show OkMc (1+(y.2+1)) _
   rw [show 1+(y.2+1)=1+y.2+1 by omega];exact o2
  ·clear next
   obtain ⟨T,hT⟩:∃ T,T=y.1:=⟨_,rfl⟩
   obtain ⟨W,hW⟩:∃ W,W=y.2:=⟨_,rfl⟩
   rw [← hT,← hW] at hmk
   rw [← hT]
   have hv7:=OkMc_le hv (j:=7) (by omega) (by omega)
   have h:Own w0 S R w (mach b v^emp):=h.fin
   refine w_join h (fun r:Int=>(ex fun v2:Mc=>pur (r=T∧0≤T∧T≤120000∧v2.q.n=0∧(∃ K,OkMc K v2)∧∃ x,v2.so 2=some x∧x.out=0∧skFl x=0∧bW x.bf - bN x.bf=0) (mach b v2))^emp) (fun _=>True) (fun r w _ h=>?_) ?_
   ·obtain ⟨v2,h⟩:=h.exP
    obtain ⟨⟨g1,g2,g2',g3,⟨K2,g4⟩,x,g5,g6,g7,g8⟩,h⟩:=h.purP
    have hop:openS v2 2=some x:=by unfold openS;rw [if_pos (by decide)];exact g5
    refine w_call (state_tri b K2 v2 g4 2) h fun r w h=>?_
    obtain ⟨hr,h⟩:=h.purP;rw [hr,hop]
    obtain ⟨A,hA⟩:∃ A,A=stO (some x):=⟨_,rfl⟩
    have hA1:A.1=0:=by rw [hA];exact g6
    have hA2:A.2.1=0:=by rw [hA];exact g7
    have hA3:A.2.2.1=0:=by rw [hA];exact g8
    rw [← hA]
    refine w_new h fun n38 w h=>w_setTo h n38 (Ks.mk K_u3i A) rfl rfl rfl fun w h=>?_
    have hu:IntKind.u64.wrap T=T:=wu (by omega) (by omega)
    refine w_ite (fun _=>?_) fun c=>(by rw [g1,hu] at c;simp at c)
    refine w_ld (x:=A.2.2.1) h rfl (w_ite (fun _=>?_) fun c=>(by rw [hA3] at c;cases c))
    refine w_ld (x:=A.2.1) h rfl (w_ite (fun _=>?_) fun c=>(by rw [hA2] at c;cases c))
    refine w_ld (x:=A.1) h rfl (w_ite (fun _=>?_) fun c=>(by rw [hA1] at c;cases c))
    refine w_call (queued_tri b v2) h fun r w h=>?_
    obtain ⟨hr,h⟩:=h.purP;rw [hr,g3]
    exact Own.retP rfl h.emp'
   ·refine w_loopE (fun (_:Int × Int) (v:Mc)=>mach b v^emp) (fun (q:Int × Int) v=>0≤q.2∧OkMc (7+3 * q.2) v∧∃ a ss δ,Mk q.1 a W T δ v ss∧0≤a∧q.2≤2 * δ+(if (deqF v.q v.now (ratesF v.so)).1.isSome=true then 1 else 0)) (fun (q:Int × Int) _=>(3000 - q.2).toNat) v h ⟨Int.le_refl 0,hv7,a,ss,0,hmk,ha,by show (0:Int)≤2 * 0+_;split<;>omega⟩ ?_
    rintro K (q:Int × Int) v w ⟨hq0,hv,a,ss,δ,hmk,ha,hqz⟩ h next
    obtain ⟨b1,b2,b3⟩:=mk_a hmk
    have hq3:q.2 < 3000:=by split at hqz<;>omega
    have hd0:=hmk.d0
    refine w_ite (fun _=>?_) fun c=>?_
    rotate_left
    ·exfalso
     have c:¬ q.2 < 3000:=of_decide_eq_false c
     omega
    have hq1:IntKind.i64.wrap (q.2+1)=q.2+1:=wi (by omega) (by omega)
    have o1:=do_ok hv (by omega) dPull_ok []
    refine w_do0 (d:=dPull) h hv (by omega) dPull_ok rfl fun r w hr h=>?_
    rw [pull_eq] at o1 h hr
    dsimp only at o1 h hr
    obtain ⟨⟨t1,t2,t3,t4⟩,re⟩:=r
    dsimp only at hr
    obtain ⟨hwd,h⟩:=h.outR (t1,t2,t3,t4)
    dsimp only at h hwd ⊢
    have l1:=(h.rd (s:=t1)).2
    by_cases hdue:(deqF v.q v.now (ratesF v.so)).1.isSome=true
    ·rw [if_pos hdue] at hqz
     obtain ⟨g,l,hss,hdep,hfr,hag,hk,hln,hyT,a',ss',mk',ha',hnow⟩:=depart_mk hmk hv (by omega) ha hdue
     rw [hdep] at l1 h
     have l1:t1.len=1:=l1
     have h:Own w0 S R w (arr t1 KS [g]^mach b (pullF v ou0).2^emp):=h.fin
     refine w_new h fun n18 w h=>w_setTo h n18 (Ks.mk KOu (t1,t2,t3,t4)) rfl rfl rfl fun w h=>?_
     refine w_ite (fun c=>(by rw [hr] at c;cases c)) fun _=>w_ld (x:=t1) h rfl (w_ite (fun _=>?_) fun c=>(by rw [l1] at c;cases c))
     refine w_ld (x:=t1) h rfl (w_idx (s:=t1) h (by decide) (by show 0 < 1;decide) (w_ldE h t1 0 (y:=g) rfl rfl ?_))
     refine w_new h fun n23 w h=>w_setTo h n23 (Ks.mk KS g) rfl rfl rfl fun w h=>?_
     have h:Own w0 S R w (blk n23 (Ks.mk KS g)^mach b (pullF v ou0).2^emp):=h.fin
     refine w_join h (fun _=>blk n23 (Ks.mk KS g)^mach b (pullF v ou0).2^emp) (fun z:Bool=>z=false) (fun z w hz h=>?_) ?_
     rotate_left
     ·refine w_ld (x:=sFr g) h rfl (w_ite (fun c=>(by rw [hfr] at c;simp at c)) fun _=>?_)
      refine w_ld (x:=sAg g) h rfl (w_ite (fun c=>(by rw [hag] at c;cases c)) fun _=>?_)
      refine w_ld (x:=sK g) h rfl ⟨?_,h⟩
      rw [hk];rfl
     rw [hz]
     refine w_ite (fun c=>(by cases c)) fun _=>w_ld (x:=sLn g) h rfl (w_ld (x:=sLn g) h rfl ?_)
     have o2:=do_ok o1 (by omega) (dOne_ok 7 2 (sLn g) (by omega)) []
     refine w_do0 (d:=dOne 7 2 (sLn g)) h o1 (by omega) (dOne_ok 7 2 (sLn g) (by omega)) rfl fun r w _ h=>?_
     have hu:IntKind.u64.wrap (q.1+IntKind.u64.wrap (sLn g))=q.1+sLn g:=by rw [wu (n:=sLn g) (by omega) (by omega),wu (by omega) (by omega)]
     rw [hu]
     have hU:U (q.1+sLn g):=by unfold U;omega
     have o3:=do_ok o2 (by omega) (dAck_ok hU) []
     have h:Own w0 S R w (mach b (doF (pullF v ou0).2 (dOne 7 2 (sLn g)) []).2^emp):=h.fin
     refine w_do0 (d:=dAck (q.1+sLn g)) h o2 (by omega) (dAck_ok hU) rfl fun r w _ h=>?_
     rw [hq1]
     refine next (q.1+sLn g,q.2+1) _ w ⟨by show 0≤q.2+1;omega,?_,a',ss',δ+1,mk',ha',?_⟩ h.fin (by show (3000 - (q.2+1)).toNat < (3000 - q.2).toNat;omega)
     ·show OkMc (7+3 * (q.2+1)) _
      rw [show 7+3 * (q.2+1)=7+3 * q.2+1+1+1 by omega];exact o3
     ·show q.2+1≤_
      split<;>omega
    ·rw [if_neg hdue] at hqz
     obtain ⟨hdep,mk',hnow,hcase⟩:=none_mk hmk hv (by simpa using hdue)
     rw [hdep] at l1 h
     have l1:t1.len=0:=l1
     have h:Own w0 S R w (mach b (pullF v ou0).2^emp):=h.fin
     refine w_new h fun n18 w h=>w_setTo h n18 (Ks.mk KOu (t1,t2,t3,t4)) rfl rfl rfl fun w h=>?_
     refine w_ite (fun c=>(by rw [hr] at c;cases c)) fun _=>w_ld (x:=t1) h rfl (w_ite (fun c=>(by rw [l1] at c;cases c)) fun _=>?_)
     have hn0:=hv.now
     refine w_ld (x:=t4) h rfl (w_ite (fun c=>?_) fun c=>?_)
     ·have c:t4=0:=by simpa using c
      rcases hcase with ⟨_,hss⟩ | ⟨⟨hgt,_⟩,_⟩
      rotate_left
      ·exfalso
       have e:(0:Int)=(pullF v ou0).1.wd:=c.symm.trans hwd
       omega
      rw [hss] at mk'
      obtain ⟨e1,e2,e3⟩:=mk_end mk' ⟨_,o1⟩
      have hT0:0≤T:=by
       obtain ⟨x,hx,hp,hT,_⟩:=mk'.x
       have:=(o1.so 2 x hx).1.i.ok.bf
       have h1:=this.u;have h2:=this.un;have h3:=this.nw
       omega
      have h:Own w0 S R w (mach b (pullF v ou0).2^emp):=h.fin
      exact ⟨trivial,Own.toEx (f:=fun v2:Mc=>pur (q.1=T∧0≤T∧T≤120000∧v2.q.n=0∧(∃ K,OkMc K v2)∧∃ x,v2.so 2=some x∧x.out=0∧skFl x=0∧bW x.bf - bN x.bf=0) (mach b v2)) (pullF v ou0).2 (Own.toPur ⟨e1,hT0,b3,e2,⟨_,o1⟩,e3⟩ h)⟩
     ·have c:¬ t4=0:=by simpa using c
      rcases hcase with ⟨hz,_⟩ | ⟨⟨hgt,hle⟩,hdu⟩
      ·exact absurd (hwd.trans hz) c
      rw [← hwd] at hgt hle hdu
      have hgt:v.now < (t4:Int):=hgt
      have hle:(t4:Int)≤1000000000 * (a+δ):=hle
      have hU:U t4:=by unfold U;omega
      have he:=dAt_eq (pullF v ou0).2 (t:=t4) (by rw [hnow];omega)
      have o2:=do_ok o1 (by omega) (dAt_ok2 hU) []
      refine w_ld (x:=t4) h rfl (w_do0 (d:=dAt t4) h o1 (by omega) (dAt_ok2 hU) rfl fun r w hr2 h=>?_)
      obtain ⟨r35,e35⟩:=r
      dsimp only at hr2
      rw [he] at hr2 h o2
      dsimp only at hr2 h o2
      have h:Own w0 S R w (mach b { (pullF v ou0).2 with now:=t4 }^emp):=h.fin
      refine w_new h fun n36 w h=>w_setAll h (by rfl) fun w h=>w_ite (fun c=>(by rw [hr2] at c;cases c)) fun _=>?_
      rw [hq1]
      refine next (q.1,q.2+1) { (pullF v ou0).2 with now:=t4 } w ⟨by show 0≤q.2+1;omega,?_,a,ss,δ,{ x:=mk'.x,now:=hle,d:=mk'.d,d0:=mk'.d0 },ha,?_⟩ h.fin (by show (3000 - (q.2+1)).toNat < (3000 - q.2).toNat;omega)
      ·show OkMc (7+3 * (q.2+1)) _
       exact OkMc_le o2 (by omega) (by omega)
      ·show q.2+1≤2 * δ+(if (deqF (pullF v ou0).2.q t4 (ratesF (pullF v ou0).2.so)).1.isSome=true then 1 else 0)
       rw [if_pos hdu];omega
end EgZe

end Go.X
