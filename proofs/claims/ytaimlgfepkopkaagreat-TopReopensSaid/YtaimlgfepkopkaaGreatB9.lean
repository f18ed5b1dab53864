/- Contracts and plain facts: EgF EgG EgH EgI EgJ EgK EgL EgO EgP EgQ EgR EgS. -/
import Derived.Test.YtaimlgfepkopkaaGreatB0
import Derived.Test.YtaimlgfepkopkaaGreatB1
import Derived.Test.YtaimlgfepkopkaaGreatB2
import Derived.Test.YtaimlgfepkopkaaGreatB3
import Derived.Test.YtaimlgfepkopkaaGreatB4
import Derived.Test.YtaimlgfepkopkaaGreatB5
import Derived.Test.YtaimlgfepkopkaaGreatB6
import Derived.Test.YtaimlgfepkopkaaGreatB7
import Derived.Test.YtaimlgfepkopkaaGreatB8
import Derived.Test.YtaimlgfepkopkaaGreatK
import Derived.Test.YtaimlgfepkopkaaGreatF0
import Derived.Test.YtaimlgfepkopkaaGreatF1
import Derived.Test.YtaimlgfepkopkaaGreatF2
set_option linter.unusedVariables false
set_option linter.unusedSimpArgs false
set_option linter.unusedSectionVars false
namespace Go.X
open Go.Proofs
namespace EgF
open Arith ArithC TreeF FqM FqC SockC EgM EgA EgB EgC EgD EgE
open SockM (Sk emitS doneS writeS loseS newS skFl skTso mayS)
open SockO (IvS)
open SockV (IvB)
theorem upL_upL {α:Type} (l:Nat→α) (i:Nat) (x y:α):upL (upL l i x) i y=upL l i y:=funext fun j=>by unfold upL;split<;>rfl
theorem ivB_le {k j:Int} {v:Sk} (h:IvB k v) (hj:k≤j) (hj2:j≤1000000):IvB j v :=
 { i:=h.i.le hj,kr:=by have:=h.kr;omega,g:=h.g,b:=SockV.Bd_le h.b (by omega) }
theorem OkMc_le {k j:Int} {v:Mc} (h:OkMc k v) (hj:k≤j) (hj2:j≤1000000):OkMc j v :=
 { c:=h.c,now:=h.now,q:=h.q,so:=fun i x hx=>⟨ivB_le (h.so i x hx).1 hj hj2,(h.so i x hx).2⟩,kr:=by have:=h.kr;omega }
theorem told_ok {k:Int} {x:Sk} (hx:IvB k x) (hk:k < 1000000) {now:Int} (hn:U now) (d:Dd) (xs:List (Int × Int)):IvB (k+1) (toldF x now d xs).2∧(toldF x now d xs).2.id=x.id:=by
 unfold toldF
 split
 ·exact ⟨hx.write hk _,rfl⟩
 ·split
  ·exact ⟨hx.ack hk hn _ _,by unfold SockL.ackS;split<;>rfl⟩
  ·split
   ·exact ⟨hx.lose hk hn,rfl⟩
   ·exact ⟨hx.done hk _,by unfold doneS;split<;>rfl⟩
theorem upS_ok {k:Int} {v:Mc} (hv:OkMc k v) {i:Nat} (hi:i < 8) {x:Sk} (hx:IvB k x) (hid:x.id=(i:Int)):OkMc k { v with so:=upL v.so i (some x) }:=by
 have hso:∀ j y,upL v.so i (some x) j=some y→IvB k y∧y.id=(j:Int)∧j < 8:=fun j y hy=>by
  by_cases e:j=i
  ·subst e
   rw [upL_same] at hy
   cases hy;exact ⟨hx,hid,hi⟩
  ·rw [upL_ne _ _ e] at hy;exact hv.so j y hy
 exact { hv with so:=hso }
theorem upN_ok {k:Int} {v:Mc} (hv:OkMc k v) (i:Nat):OkMc k { v with so:=upL v.so i none }:=by
 have hso:∀ j y,upL v.so i none j=some y→IvB k y∧y.id=(j:Int)∧j < 8:=fun j y hy=>by
  by_cases e:j=i
  ·subst e
   rw [upL_same] at hy;cases hy
  ·rw [upL_ne _ _ e] at hy;exact hv.so j y hy
 exact { hv with so:=hso }
theorem one_tri (b a:Nat) (k:Int) (v:Mc) (hv:OkMc k v) (hk:k < 1000000) (d:Dd) (hd:OkD d) (xs:List (Ks.T KR)) (hxl:xs.length≤4294967296) (o:Ou) (hl:o.dr.length≤400∧o.ft.length≤400) :
  Tri Tryz.prog N_egress_Machine_one [.lf (.ptr (some ⟨b,0⟩)),.agg (Ks.mk KD d),.lf (.ptr (some ⟨a,0⟩))] [.lf (.int .i64)] ((mach b v^outp a o)^rarr (dR d) KR xs) (fun r=>pur (r=(oneM v d xs o).1) (mach b (oneM v d xs o).2.2^outp a (oneM v d xs o).2.1)) :=
 tri_0 (call_egress_Machine_one (some ⟨b,0⟩) d (some ⟨a,0⟩)) fun w0 S R h=>by
  unfold W_egress_Machine_one
  refine w_new (h.le (star_emp _)) fun n1 w h=>w_ld (x:=dS d) h rfl (w_call (is_tri (dS d)) (h.le ((star_emp _).trans (star_comm _ _))) fun r w h=>?_)
  obtain ⟨hr,h⟩:=h.purP;rw [hr]
  have h:Own w0 S R w (blk n1 (Ks.mk KD d)^mach b v^outp a o^rarr (dR d) KR xs^emp):=h.fin
  refine w_ite (fun c=>?_) fun c=>?_
  ·have c:¬ (0≤dS d∧dS d < 8):=fun hh=>by rw [decide_eq_true hh] at c;cases c
   rw [show oneM v d xs o=(8,o,v) by unfold oneM;rw [if_pos c]]
   exact Own.retP rfl h.fin
  have c:0≤dS d∧dS d < 8:=by
   by_cases hh:0≤dS d∧dS d < 8
   ·exact hh
   ·rw [decide_eq_false hh] at c;cases c
  obtain ⟨i,hi⟩:∃ i:Nat,dS d=(i:Int):=⟨(dS d).toNat,by omega⟩
  have hi8:i < 8:=by omega
  have eit:((i:Nat):Int).toNat=i:=Int.toNat_natCast i
  have hone:oneM v d xs o=match v.so i with
    | none=>if dK d=1 then (0,o,{ v with so:=upL v.so i (some (newS (i:Int) (cMss v.c) (cCap v.c))) }) else (10,o,v)
    | some x=>if dK d=1 then (9,o,v) else if dK d=9 then (0,(shutM v i o).1,(shutM v i o).2)
     else if (toldF x v.now d xs).1=0 then (0,(pumpM v i (toldF x v.now d xs).2 o).1,(pumpM v i (toldF x v.now d xs).2 o).2)
     else ((toldF x v.now d xs).1,o,{ v with so:=upL v.so i (some (toldF x v.now d xs).2) }):=by
   unfold oneM
   rw [if_neg (fun hh=>hh c),hi,eit]
   cases v.so i<;>rfl
  obtain ⟨p,ck,q,l,h⟩:=h.mach b
  have hsn:=isNK h p v.so hi8
  have hat:Ks.un [.ptr] (((mL v.c ck p q l).drop (0+10+(dS d).toNat * 1)).take 1)=some (p i):=by rw [hi,eit,mL_at v.c ck p q l i hi8]
  refine w_drw h fun w h=>w_ld (x:=dS d) h rfl (w_deref ⟨c,w_ld h hat (w_ld (x:=dK d) h rfl ?_)⟩)
  cases hs:v.so i with
  | none =>
   rw [hs] at hsn hone
   have hpn:p i=none:=by simpa using hsn
   rw [hpn]
   refine w_ite (fun cc=>(by simp at cc)) fun _=>w_ld (x:=dK d) h rfl (w_ite (fun c1=>?_) fun c1=>?_)
   ·have c1:dK d=1:=by simpa using c1
    dsimp only at hone
    rw [if_pos c1] at hone
    rw [hone]
    refine w_drw h fun w h=>w_ld (x:=dS d) h rfl (w_ld (x:=dS d) h rfl (w_deref (w_deref (w_ld (x:=v.c) h rfl ?_))))
    rw [hi]
    refine w_call (SockK.snew_tri (i:Int) v.c) (h.le ((star_emp _).trans (star_comm _ _))) fun r w h=>?_
    obtain ⟨ap,h⟩:=h.exP
    obtain ⟨hr,h⟩:=h.purP;rw [hr]
    have h:Own w0 S R w (sck ap (newS (i:Int) (cMss v.c) (cCap v.c))^blk n1 (Ks.mk KD d)^(blk b (mL v.c ck p q l)^blk ck [.int .u64 v.now]^que q v.q^led l v.l^AllK p v.so)^outp a o^emp):=h.fin
    refine w_chk h (by show [Lf.int IntKind.i64 (dS d)]=_;rw [hi];rfl) ⟨by omega,?_⟩
    rw [eit]
    obtain ⟨_,h⟩:=h.noK p v.so hi8 hs
    refine w_setTo h b (mL v.c ck (upP p i (some ⟨ap,0⟩)) q l) rfl (by rcases lt8 hi8 with rfl | rfl | rfl | rfl | rfl | rfl | rfl | rfl<;>rfl) (mL_up v.c ck p q l i hi8 (some ⟨ap,0⟩)) fun w h=>?_
    have h:=h.inK p v.so hi8 (upP p i (some ⟨ap,0⟩)) (upL v.so i (some (newS (i:Int) (cMss v.c) (cCap v.c)))) ap (newS (i:Int) (cMss v.c) (cCap v.c)) (fun j hj=>upP_ne p _ hj) (fun j hj=>upL_ne v.so _ hj) (upP_same p i _) (upL_same v.so i _)
    have h:=h.mkMach b (upP p i (some ⟨ap,0⟩)) ck q l { v with so:=upL v.so i (some (newS (i:Int) (cMss v.c) (cCap v.c))) }
    exact Own.retP rfl h.fin
   ·have c1:¬ dK d=1:=by simpa using c1
    dsimp only at hone
    rw [if_neg c1] at hone
    rw [hone]
    refine w_ite (fun _=>?_) fun cc=>(by simp at cc)
    have h:=h.mkMach b p ck q l v
    exact Own.retP rfl h.fin
  | some x =>
   obtain ⟨hx,hid,_⟩:=hv.so i x hs
   rw [hs] at hsn hone
   obtain ⟨ap,hp,h⟩:=h.outK p v.so hi8 hs
   rw [hp]
   refine w_ite (fun c1=>?_) fun c1=>?_
   ·have c1:dK d=1:=by simpa using c1
    dsimp only at hone
    rw [if_pos c1] at hone
    rw [hone]
    have h:=h.inK p v.so hi8 p v.so ap x (fun _ _=>rfl) (fun _ _=>rfl) hp hs
    have h:=h.mkMach b p ck q l v
    exact Own.retP rfl h.fin
   have c1:¬ dK d=1:=by simpa using c1
   dsimp only at hone
   rw [if_neg c1] at hone
   refine w_ld (x:=dK d) h rfl (w_ite (fun cc=>(by simp at cc;exact absurd cc c1)) fun _=>w_ite (fun cc=>(by simp at cc)) fun _=>w_ld (x:=dK d) h rfl (w_ite (fun c9=>?_) fun c9=>?_))
   ·have c9:dK d=9:=by simpa using c9
    rw [if_pos c9] at hone
    rw [hone]
    have h:=h.inK p v.so hi8 p v.so ap x (fun _ _=>rfl) (fun _ _=>rfl) hp hs
    have h:=h.mkMach b p ck q l v
    refine w_ld (x:=dS d) h rfl ?_
    rw [hi]
    refine w_call (shut_tri b a k v hv i hi8 o hl) h fun _ w h=>?_
    exact Own.retP rfl h.fin
   have c9:¬ dK d=9:=by simpa using c9
   rw [if_neg c9] at hone
   refine w_drw h fun w h=>w_ldAll (b:=n1) (x:=d) h rfl (w_call (mnowO_tri b v.c p ck q l v.now) h fun r w h=>?_)
   obtain ⟨hr,h⟩:=h.purP;rw [hr]
   refine w_chkAll (b:=n1) h ?_
   refine w_callL (A:=sck ap x) (Q:=rarr (dR d) KR xs) (told_tri ap k x hx v.now hv.un d hd xs hxl) h fun r w h=>?_
   obtain ⟨hr,h⟩:=h.purP;rw [hr]
   obtain ⟨hx2,hid2⟩:=told_ok hx hk hv.un d xs
   have h:=h.inK p v.so hi8 p (upL v.so i (some (toldF x v.now d xs).2)) ap (toldF x v.now d xs).2 (fun _ _=>rfl) (fun j hj=>upL_ne v.so _ hj) hp (upL_same v.so i _)
   have h:=h.mkMach b p ck q l { v with so:=upL v.so i (some (toldF x v.now d xs).2) }
   have hv2:OkMc (k+1) { v with so:=upL v.so i (some (toldF x v.now d xs).2) }:=upS_ok (OkMc_le hv (by omega) (by omega)) hi8 hx2 (hid2.trans hid)
   refine w_ite (fun c0=>?_) fun c0=>?_
   ·have c0:(toldF x v.now d xs).1=0:=by simpa using c0
    rw [if_pos c0] at hone
    rw [hone]
    refine w_ld (x:=dS d) h rfl ?_
    rw [hi]
    refine w_call (pump_tri b a (k+1) { v with so:=upL v.so i (some (toldF x v.now d xs).2) } hv2 i (toldF x v.now d xs).2 (upL_same v.so i _) o (by omega)) h fun _ w h=>?_
    have e:pumpM { v with so:=upL v.so i (some (toldF x v.now d xs).2) } i (toldF x v.now d xs).2 o=pumpM v i (toldF x v.now d xs).2 o:=by
     unfold pumpM
     dsimp only
     rw [upL_upL]
    rw [e] at h
    exact Own.retP c0 h.fin
   ·have c0:¬ (toldF x v.now d xs).1=0:=by simpa using c0
    rw [if_neg c0] at hone
    rw [hone]
    exact Own.retP rfl h.fin
abbrev KOu:Ks:=[.sl,.sl,.sl,.int .u64]
def outR (r:Ks.T KOu) (o:Ou):SP:=pur (r.2.2.2=o.wd) (arr r.1 KS o.dep^arr r.2.1 KS o.dr^arr r.2.2.1 KI o.ft)
instance (r:Ks.T KOu) (o:Ou):NoR (outR r o):=by unfold outR;infer_instance
theorem do_tri (b:Nat) (k:Int) (v:Mc) (hv:OkMc k v) (hk:k < 1000000) (d:Dd) (hd:OkD d) (xs:List (Ks.T KR)) (hxl:xs.length≤4294967296) :
  Tri Tryz.prog N_egress_Machine_Do [.lf (.ptr (some ⟨b,0⟩)),.agg (Ks.mk KD d)] [.agg KOu,.lf (.int .i64)] (mach b v^rarr (dR d) KR xs) (fun r=>pur (r.2=(doF v d xs).1.2) (mach b (doF v d xs).2^outR r.1 (doF v d xs).1.1)) :=
 tri_0 (call_egress_Machine_Do (some ⟨b,0⟩) d) fun w0 S R h=>by
  unfold W_egress_Machine_Do
  refine w_new (h.le (star_emp _)) fun n1 w h=>w_new h fun n2 w h=>w_ite (fun c=>(by simp at c)) fun _=>w_new h fun n4 w h=>?_
  have h:=h.nil KS
  have h:=h.nil KS
  have h:=h.nil KI
  have h:=h.mkOutp n4 ⟨none,0,0⟩ ⟨none,0,0⟩ ⟨none,0,0⟩ ou0
  have h:Own w0 S R w (blk n1 (Ks.mk KD d)^outp n4 ou0^mach b v^rarr (dR d) KR xs^blk n2 [.sl ⟨none,0,0⟩,.sl ⟨none,0,0⟩,.sl ⟨none,0,0⟩,.int .u64 0]^emp):=h.fin
  refine w_join h (fun _=>outp n4 (stepM v d xs).2.1^mach b (stepM v d xs).2.2^blk n2 [.sl ⟨none,0,0⟩,.sl ⟨none,0,0⟩,.sl ⟨none,0,0⟩,.int .u64 0]^emp) (fun y:Int=>y=(stepM v d xs).1) (fun (y:Int) w hy h=>?_) ?_
  ·rw [hy]
   refine w_ite (fun c=>?_) fun c=>?_
   ·have c:(stepM v d xs).1≠0:=by simpa using c
    rw [show doF v d xs=((ou0,(stepM v d xs).1),(stepM v d xs).2.2) by unfold doF;rw [if_pos c]]
    refine w_setAll h (by rfl) fun w h=>w_ldAll (b:=n2) (x:=((⟨none,0,0⟩,⟨none,0,0⟩,⟨none,0,0⟩,0):Ks.T KOu)) h rfl ?_
    have h:=h.nil KS
    have h:=h.nil KS
    have h:=h.nil KI
    have h:Own w0 S R w (outR (⟨none,0,0⟩,⟨none,0,0⟩,⟨none,0,0⟩,0) ou0^mach b (stepM v d xs).2.2^emp):=Own.toPur (p:=((⟨none,0,0⟩,⟨none,0,0⟩,⟨none,0,0⟩,0):Ks.T KOu).2.2.2=ou0.wd) (A:=arr ⟨none,0,0⟩ KS []^arr ⟨none,0,0⟩ KS []^arr ⟨none,0,0⟩ KI []) rfl h.fin
    exact Own.retP rfl h.fin
   ·have c:(stepM v d xs).1=0:=by simpa using c
    rw [show doF v d xs=(((stepM v d xs).2.1,0),(stepM v d xs).2.2) by unfold doF;rw [if_neg (fun x=>x c)]]
    obtain ⟨s1,s2,s3,h⟩:=h.outp n4
    refine w_ldAll (b:=n4) (x:=((s1,s2,s3,(stepM v d xs).2.1.wd):Ks.T KOu)) h rfl (w_setAll h (by rfl) fun w h=>w_ldAll (b:=n2) (x:=((s1,s2,s3,(stepM v d xs).2.1.wd):Ks.T KOu)) h rfl ?_)
    have h:Own w0 S R w (outR (s1,s2,s3,(stepM v d xs).2.1.wd) (stepM v d xs).2.1^mach b (stepM v d xs).2.2^emp):=Own.toPur (p:=((s1,s2,s3,(stepM v d xs).2.1.wd):Ks.T KOu).2.2.2=(stepM v d xs).2.1.wd) (A:=arr s1 KS (stepM v d xs).2.1.dep^arr s2 KS (stepM v d xs).2.1.dr^arr s3 KI (stepM v d xs).2.1.ft) rfl h.fin
    exact Own.retP rfl h.fin
  ·refine w_ld (x:=dK d) h rfl (w_ite (fun c5=>?_) fun c5=>?_)
   ·have c5:dK d=5:=by simpa using c5
    rw [show stepM v d xs=((moveF v.now (dA d)).1,ou0,{ v with now:=(moveF v.now (dA d)).2 }) by unfold stepM;rw [if_pos c5]]
    obtain ⟨p,ck,q,l,h⟩:=h.mach b
    refine w_drw h fun w h=>w_deref (w_ld (x:=dA d) h rfl (w_ld (x:=some ⟨ck,0⟩) h rfl (w_call (move_tri ck v.now (dA d)) h fun r w h=>?_)))
    obtain ⟨hr,h⟩:=h.purP;rw [hr]
    have h:=h.mkMach b p ck q l { v with now:=(moveF v.now (dA d)).2 }
    exact ⟨rfl,h.fin⟩
   have c5:¬ dK d=5:=by simpa using c5
   refine w_ite (fun c6=>?_) fun c6=>?_
   ·have c6:dK d=6:=by simpa using c6
    rw [show stepM v d xs=(0,(pullF v ou0).1,(pullF v ou0).2) by unfold stepM;rw [if_neg c5,if_pos c6]]
    refine w_call (pull_tri b n4 k v hv ou0) h fun _ w h=>?_
    exact ⟨rfl,h.fin⟩
   have c6:¬ dK d=6:=by simpa using c6
   refine w_ite (fun c8=>?_) fun c8=>?_
   ·have c8:dK d=8:=by simpa using c8
    rw [show stepM v d xs=((setM v (dC d)).1,ou0,(setM v (dC d)).2) by unfold stepM;rw [if_neg c5,if_neg c6,if_pos c8]]
    refine w_ld (x:=dC d) h rfl (w_call (set_tri b v (dC d)) h fun r w h=>?_)
    obtain ⟨hr,h⟩:=h.purP;rw [hr]
    exact ⟨rfl,h.fin⟩
   have c8:¬ dK d=8:=by simpa using c8
   have estep:stepM v d xs=if isOne (dK d) then oneM v d xs ou0 else (12,ou0,v):=by unfold stepM;rw [if_neg c5,if_neg c6,if_neg c8]
   refine w_join h (fun _=>blk n1 (Ks.mk KD d)^outp n4 ou0^mach b v^rarr (dR d) KR xs^blk n2 [.sl ⟨none,0,0⟩,.sl ⟨none,0,0⟩,.sl ⟨none,0,0⟩,.int .u64 0]^emp) (fun y:Bool=>y=isOne (dK d)) (fun (y:Bool) w hy h=>?_) ?_
   ·rw [hy]
    refine w_ite (fun c=>?_) fun c=>?_
    ·rw [if_pos c] at estep
     rw [estep]
     refine w_ldAll (b:=n1) (x:=d) h rfl ?_
     refine w_callL (A:=mach b v^outp n4 ou0) (Q:=rarr (dR d) KR xs) (one_tri b n4 k v hv hk d hd xs hxl ou0 ⟨by show (0:Nat)≤400;decide,by show (0:Nat)≤400;decide⟩) h fun r w h=>?_
     obtain ⟨hr,h⟩:=h.purP;rw [hr]
     exact ⟨rfl,h.fin⟩
    ·rw [if_neg (by rw [c];simp)] at estep
     rw [estep]
     exact ⟨rfl,h.fin⟩
   ·unfold isOne
    refine w_ite (fun c=>⟨by rw [c];rfl,h⟩) fun d1=>?_
    refine w_ite (fun c=>⟨by rw [d1,c];rfl,h⟩) fun d2=>?_
    refine w_ite (fun c=>⟨by rw [d1,d2,c];rfl,h⟩) fun d3=>?_
    refine w_ite (fun c=>⟨by rw [d1,d2,d3,c];rfl,h⟩) fun d4=>?_
    refine w_ite (fun c=>⟨by rw [d1,d2,d3,d4,c];rfl,h⟩) fun d5=>?_
    exact ⟨by rw [d1,d2,d3,d4,d5];rfl,h⟩
end EgF

namespace EgG
open Arith ArithC FqM EgM
class NoS (A:SP):Prop where
 nos:∀ w S R,A.h w S R→∀ k,¬ S k
instance (s:Sl) (K:Ks) (xs:List (Ks.T K)):NoS (rarr s K xs):=⟨fun _ _ _ h=>h.2.1⟩
instance:NoS emp:=⟨fun _ _ _ h=>h.1⟩
instance (A B:SP) [a:NoS A] [b:NoS B]:NoS (A^B):=⟨fun _ _ _ ⟨_,_,_,_,h1,h2,hS,_⟩ k hk=>((hS k).1 hk).elim (a.nos _ _ _ h1 k) (b.nos _ _ _ h2 k)⟩
theorem noS_rl {α:Type} (f:α→SP) (h:∀ x,NoS (f x)):∀ l:List α,NoS (rl f l)
 | []=>by unfold rl;infer_instance
 | x :: l=>by have:=noS_rl f h l;have:=h x;unfold rl;infer_instance
instance {α:Type} (f:α→SP) (l:List α) [h:∀ x,NoS (f x)]:NoS (rl f l):=noS_rl f h l
instance (priority:=300) lend_take (A F G:SP) [t:Take A F G] [n:NoS A]:Lend A F:=⟨fun w S R h=>by
 obtain ⟨S1,R1,S2,R2,h1,h2,hS,hR,_⟩:=t.le w S R h
 have e:S1=fun _=>False:=funext fun k=>eq_false (n.nos _ _ _ h1 k)
 rw [e] at h1
 exact ⟨R1,h1,fun k hk=>.inr ((hR k).2 (.inl hk))⟩⟩
abbrev KR:Ks:=[.int .u64,.int .u64]
abbrev OpE:=Dd × List (Ks.T KR)
abbrev opsE (s:Sl) (ps:List OpE):SP:=rarr s KD (ps.map Prod.fst)^rl (fun p:OpE=>rarr (dR p.1) KR p.2) ps
def deedF (d:Dd):Dd:=(dK d,dS d,(if dL d > 200000 then 200000 else dL d),dU d,dA d,(if (dR d).len > 6 then (dR d).sub 0 6 (dR d).cap 2 else dR d),dC d)
def deedsF (most:Int) (ps:List OpE):List OpE:=(ps.take most.toNat).map fun p=>(deedF p.1,p.2.take 6)
structure OkE (p:OpE):Prop where
 l:-9223372036854775808≤dL p.1∧dL p.1 < 9223372036854775808
 u:U (dU p.1)
 a:U (dA p.1)
 c:0≤cH (dC p.1)∧U (cR (dC p.1))
 n:p.2.length≤9223372036854775807
 cp:(dR p.1).len≤(dR p.1).cap
theorem okE_of {p:OpE} (h:∀ k n,Lf.int k n∈Ks.mk KD p.1→(Lit.int k n).wf=true) (hm:p.2.length≤maxLen) (hc:(dR p.1).len≤(dR p.1).cap):OkE p where
 l:=Wf.i (h .i64 (dL p.1) (List.mem_of_getElem? (i:=2) rfl))
 u:=Wf.u (h .u64 (dU p.1) (List.mem_of_getElem? (i:=3) rfl))
 a:=Wf.u (h .u64 (dA p.1) (List.mem_of_getElem? (i:=4) rfl))
 c:=⟨(Wf.u (h .u64 (cH (dC p.1)) (List.mem_of_getElem? (i:=10) rfl))).1,Wf.u (h .u64 (cR (dC p.1)) (List.mem_of_getElem? (i:=11) rfl))⟩
 n:=hm
 cp:=hc
theorem rd_dR {ps:List OpE} {i:Nat} {o:OpE} (h:ps[i]?=some o):Rd (dR o.1) (rl (fun p:OpE=>rarr (dR p.1) KR p.2) ps) KR o.2:=rd_rl h (rd_rarr _ _ _)
theorem rd_deed (p:OpE) (F:SP) (hc:(dR p.1).len≤(dR p.1).cap) (hl:(dR p.1).len=p.2.length) [t:Rd (dR p.1) F KR p.2]:Rd (dR (deedF p.1)) F KR (p.2.take 6):=by
 show Rd (if (dR p.1).len > 6 then (dR p.1).sub 0 6 (dR p.1).cap 2 else dR p.1) F KR (p.2.take 6)
 by_cases h:(dR p.1).len > 6
 ·rw [if_pos h]
  exact rd_sub (dR p.1) F KR p.2 0 6 (dR p.1).cap (by omega) (by omega) (by omega)
 ·rw [if_neg h,List.take_of_length_le (by omega)];exact t
abbrev zD:List Lf:=[.int .i64 0,.int .i64 0,.int .i64 0,.int .u64 0,.int .u64 0,.sl ⟨none,0,0⟩,.int .i64 0,.int .i64 0,.int .i64 0,.int .i64 0,.int .u64 0,.int .u64 0,.bool false,.int .i64 0,.int .i64 0]
theorem deed_tri (d:Dd) (xs:List (Ks.T KR)) (hc:(dR d).len≤(dR d).cap):Tri Tryz.prog N_canterplay_Deed [.agg (Ks.mk KD d)] [.agg KD] (emp^rarr (dR d) KR xs) (fun r=>pur (r=deedF d) emp) :=
 tri_0 (call_canterplay_Deed d) fun w0 S R h=>by
  unfold W_canterplay_Deed
  have hs:=(h.drop.rd (s:=dR d)).2
  obtain ⟨R',hR'⟩:∃ R',R'=(if (dR d).len > 6 then (dR d).sub 0 6 (dR d).cap 2 else dR d):=⟨_,rfl⟩
  obtain ⟨L',hL'⟩:∃ L',L'=(if dL d > 200000 then 200000 else dL d):=⟨_,rfl⟩
  have e:deedF d=(dK d,dS d,L',dU d,dA d,R',dC d):=by rw [hL',hR'];rfl
  refine w_new h fun n1 w h=>w_new h fun n2 w h=>?_
  have h:Own w0 S R w (blk n1 (Ks.mk KD d)^blk n2 zD^rarr (dR d) KR xs^emp):=h.fin
  refine w_join h (fun _=>blk n1 (Ks.mk KD (dK d,dS d,dL d,dU d,dA d,R',dC d))^blk n2 zD^emp) (fun _=>True) (fun _ w _ h=>?_) ?_
  ·refine w_join h (fun _=>blk n1 (Ks.mk KD (dK d,dS d,L',dU d,dA d,R',dC d))^blk n2 zD^emp) (fun _=>True) (fun _ w _ h=>?_) ?_
   ·refine w_ldAll (b:=n1) (x:=((dK d,dS d,L',dU d,dA d,R',dC d):Dd)) h rfl (w_setAll h (by rfl) fun w h=>w_ldAll (b:=n2) (x:=((dK d,dS d,L',dU d,dA d,R',dC d):Dd)) h rfl ?_)
    exact Own.retP e.symm h.emp'
   ·refine w_ld (x:=dL d) h rfl (w_ite (fun c=>?_) fun c=>?_)
    ·have c:dL d > 200000:=of_decide_eq_true c
     rw [if_pos c] at hL'
     refine w_setTo h n1 (Ks.mk KD (dK d,dS d,L',dU d,dA d,R',dC d)) rfl rfl (by rw [hL'];rfl) fun w h=>?_
     exact ⟨trivial,h.fin⟩
    ·have c:¬ dL d > 200000:=of_decide_eq_false c
     rw [if_neg c] at hL'
     rw [hL']
     exact ⟨trivial,h⟩
  ·refine w_ld (x:=dR d) h rfl (w_ite (fun c=>?_) fun c=>?_)
   ·have c:(((dR d).len:Nat):Int) > 6:=of_decide_eq_true c
    have c2:(dR d).len > 6:=by omega
    rw [if_pos c2] at hR'
    have hN:Nrm (dR d):=Nrm.long (h.rd (s:=dR d)).1 (by omega)
    refine w_ld (x:=dR d) h rfl (w_slcR (K:=KR) (xs:=xs) (s:=dR d) h hN 0 6 (dR d).cap rfl rfl rfl rfl (by omega) (by omega) (by omega) (Nat.le_refl _) fun _ _=>?_)
    rw [← hR']
    refine w_setTo h n1 (Ks.mk KD (dK d,dS d,dL d,dU d,dA d,R',dC d)) rfl rfl rfl fun w h=>?_
    exact ⟨trivial,h.fin⟩
   ·have c:¬ (((dR d).len:Nat):Int) > 6:=of_decide_eq_false c
    have c2:¬ (dR d).len > 6:=by omega
    rw [if_neg c2] at hR'
    rw [hR']
    exact ⟨trivial,h.fin⟩
theorem deedsF_at {ps:List OpE} {most:Int} {i:Nat} {p:OpE} (h:ps[i]?=some p) (hi:i < most.toNat):(deedsF most ps)[i]?=some (deedF p.1,p.2.take 6):=by
 unfold deedsF
 rw [List.getElem?_map,List.getElem?_take,if_pos hi,h];rfl
theorem deeds_tri (s:Sl) (ps:List OpE) (most:Int) (hm:0≤most∧most≤1000) (hp:∀ p∈ps,OkE p):Tri Tryz.prog N_canterplay_Deeds [.lf (.sl s),.lf (.int .i64 most)] [.lf .sl] (emp^opsE s ps) (fun r=>arr r KD ((deedsF most ps).map Prod.fst)) :=
 tri_0 (call_canterplay_Deeds s most) fun w0 S R h=>by
  unfold W_canterplay_Deeds
  have h:Own w0 S R w0 (rarr s KD (ps.map Prod.fst)^rl (fun p:OpE=>rarr (dR p.1) KR p.2) ps^emp):=h.fin
  have hsl:=(h.rd (s:=s)).2
  rw [List.length_map] at hsl
  have h:=h.nil KD
  have h:Own w0 S R w0 (arr ⟨none,0,0⟩ KD ((deedsF 0 ps).map Prod.fst)^rarr s KD (ps.map Prod.fst)^rl (fun p:OpE=>rarr (dR p.1) KR p.2) ps^emp):=h
  refine w_loopE (fun (y:Sl × Int) (_:Unit)=>arr y.1 KD ((deedsF y.2 ps).map Prod.fst)^rarr s KD (ps.map Prod.fst)^rl (fun p:OpE=>rarr (dR p.1) KR p.2) ps^emp) (fun (y:Sl × Int) _=>0≤y.2∧y.2≤most) (fun (y:Sl × Int) _=>(most - y.2).toNat) () h ⟨by decide,hm.1⟩ ?_
  rintro K (y:Sl × Int) _ w ⟨h0,h1⟩ h next
  obtain ⟨r,i⟩:=y
  dsimp only at h0 h1 h ⊢
  refine w_ite (fun c=>?_) fun c=>?_
  ·have c:i < ps.length∧i < most:=by
    have c:(decide (i < ((s.len:Nat):Int)) && decide (i < most))=true:=c
    rw [Bool.and_eq_true,decide_eq_true_eq,decide_eq_true_eq] at c
    omega
   have hi:i.toNat < ps.length:=by omega
   have hwi:IntKind.i64.wrap (i+1)=i+1:=wi (by omega) (by omega)
   have hin:(i+1).toNat=i.toNat+1:=by omega
   obtain ⟨p,hpi⟩:∃ p,ps[i.toNat]?=some p:=⟨_,List.getElem?_eq_getElem hi⟩
   have hpm:(ps.map Prod.fst)[i.toNat]?=some p.1:=by rw [List.getElem?_map,hpi];rfl
   haveI:=rd_dR hpi
   have hO:=hp p (List.mem_of_getElem? hpi)
   refine w_idx (s:=s) h h0 (by rw [List.length_map];exact hi) (w_ldE h s i.toNat hpm rfl ?_)
   refine w_callL (A:=emp) (Q:=rarr (dR p.1) KR p.2) (deed_tri p.1 p.2 hO.cp) (h.le ((star_emp _).trans (star_comm _ _))) fun q w h=>?_
   obtain ⟨hq,h⟩:=h.purP;rw [hq]
   refine w_new h fun n6 w h=>?_
   have h:=h.blkArr n6 KD [deedF p.1] rfl (by simp)
   have h:Own w0 S R w (arr ⟨some ⟨n6,0⟩,1,1⟩ KD [deedF p.1]^_):=h
   have hlen:((deedsF i ps).map Prod.fst).length≤i.toNat:=by rw [List.length_map,deedsF,List.length_map,List.length_take];omega
   refine w_app (K:=KD) (s:=r) (xs:=(deedsF i ps).map Prod.fst) h rfl (by simp only [List.length_singleton];omega) fun s' w _ h=>?_
   have e:(deedsF i ps).map Prod.fst++[deedF p.1]=(deedsF (i+1) ps).map Prod.fst:=by
    unfold deedsF
    rw [hin,List.take_add_one,hpi,List.map_append,List.map_append];rfl
   rw [e] at h
   rw [hwi]
   exact next (s',i+1) () w ⟨by show 0≤i+1;omega,by show i+1≤most;omega⟩ h.fin (by show (most - (i+1)).toNat < (most - i).toNat;omega)
  ·have e:deedsF i ps=deedsF most ps:=by
    unfold deedsF
    have c:¬ (i < ps.length∧i < most):=fun hh=>by
     have c:(decide (i < ((s.len:Nat):Int)) && decide (i < most))=false:=c
     rw [decide_eq_true (by omega),decide_eq_true hh.2] at c;cases c
    by_cases h2:i < most
    ·rw [List.take_of_length_le (by omega:ps.length≤i.toNat),List.take_of_length_le (by omega:ps.length≤most.toNat)]
    ·rw [show i=most by omega]
   rw [e] at h
   exact h.fin
end EgG

namespace EgH
open Arith ArithC TreeF FqM FqC SockC EgM EgA EgB EgC EgD EgE EgF
open SockM (Sk emitS doneS writeS loseS newS skFl skTso mayS)
open SockO (IvS)
open SockV (IvB)
theorem pump_ok {k:Int} {v:Mc} (hv:OkMc k v) {i:Nat} (hi:i < 8) {x:Sk} (hx:IvB k x) (hid:x.id=(i:Int)) (o:Ou):OkMc k (pumpM v i x o).2:=by
 have h:=pumpN_ok hv.un (fresh x+1) ⟨x,v.q,v.l,o⟩ (⟨hx,hid,hv.q⟩:OkPm k i ⟨x,v.q,v.l,o⟩)
 have h2:=upS_ok hv hi (x:=(pumpF i v.now ⟨x,v.q,v.l,o⟩).v) h.v h.id
 exact { h2 with q:=h.q }
theorem shut_ok {k:Int} {v:Mc} (hv:OkMc k v) (i:Nat) (o:Ou):OkMc k (shutM v i o).2:=by
 have h:=upN_ok hv i
 exact { h with q:=hv.q.close _ }
theorem pull_ok {k:Int} {v:Mc} (hv:OkMc k v) (o:Ou):OkMc k (pullF v o).2:=by
 have h:=FqN.deq_ok hv.q hv.un (rates_U hv)
 unfold pullF
 split
 ·rename_i s q e;rw [e] at h;exact { hv with q:=h }
 ·rename_i q e;rw [e] at h;exact { hv with q:=h }
theorem set_ok {k:Int} {v:Mc} (hv:OkMc k v) {c:Cf} (hc:0≤cH c∧U (cR c)):OkMc k (setM v c).2:=by
 have h:=hv.q.set hc
 unfold setM
 split
 ·rename_i h0
  refine { hv with q:=h,c:=?_ }
  unfold setF at h0
  by_cases hm:may c=true
  ·exact may_ok hm hc.1 hc.2
  ·rw [if_neg hm] at h0;cases h0
 ·exact { hv with q:=h }
theorem one_ok {k:Int} {v:Mc} (hv:OkMc k v) (hk:k < 1000000) (d:Dd) (xs:List (Int × Int)) (o:Ou):OkMc (k+1) (oneM v d xs o).2.2:=by
 have h1:=OkMc_le hv (j:=k+1) (by omega) (by omega)
 have hc:=hv.c.cap
 unfold oneM
 split
 ·exact h1
 ·rename_i hi
  have hi:0≤dS d∧dS d < 8:=Classical.not_not.1 hi
  have hi8:(dS d).toNat < 8:=by omega
  split
  ·split
   ·have hn:=SockV.new_ivB (dS d) (cMss v.c) (cCap v.c) ⟨by omega,hc.2⟩
    exact upS_ok h1 hi8 (ivB_le hn h1.kr.1 (by omega)) (by show dS d=_;omega)
   ·exact h1
  ·rename_i x hx
   obtain ⟨hxi,hxd,_⟩:=hv.so _ x hx
   split
   ·exact h1
   ·split
    ·exact shut_ok h1 _ _
    ·obtain ⟨a,b⟩:=told_ok hxi hk hv.un d xs
     split
     ·exact pump_ok h1 hi8 a (b.trans hxd) o
     ·exact upS_ok h1 hi8 a (b.trans hxd)
theorem do_ok {k:Int} {v:Mc} (hv:OkMc k v) (hk:k < 1000000) {d:Dd} (hd:OkD d) (xs:List (Int × Int)):OkMc (k+1) (doF v d xs).2:=by
 have h1:=OkMc_le hv (j:=k+1) (by omega) (by omega)
 have e:(doF v d xs).2=(stepM v d xs).2.2:=by unfold doF;split<;>rfl
 rw [e]
 unfold stepM
 split
 ·have hn:=hv.now
  have ha:=hd.a
  unfold U at ha
  refine { h1 with now:=?_ }
  show 0≤(moveF v.now (dA d)).2∧(moveF v.now (dA d)).2≤4611686018427387904
  unfold moveF
  split
  ·exact hn
  ·split
   ·exact hn
   ·exact ⟨ha.1,by show dA d≤_;omega⟩
 ·split
  ·exact pull_ok h1 _
  ·split
   ·exact set_ok h1 hd.c
   ·split
    ·exact one_ok hv hk d xs ou0
    ·exact h1
theorem new_ok {c:Cf} (hc:OkC c):OkMc 0 (newM c) where
 c:=hc
 now:=by show (0:Int)≤0∧(0:Int)≤4611686018427387904;decide
 q:=OkQ.new hc
 so:=fun i x h=>by cases h
 kr:=by decide
theorem _root_.Go.X.Own.outR {w0 w:World} {S0 R0:Nat→Prop} {F G:SP} (h:Own w0 S0 R0 w F) (r:Ks.T KOu) {o:Ou} [tk:TakeK EgF.outR r F o G]:r.2.2.2=o.wd∧Own w0 S0 R0 w (arr r.1 KS o.dep^arr r.2.1 KS o.dr^arr r.2.2.1 KI o.ft^G):=by
 have h:Own w0 S0 R0 w (pur (r.2.2.2=o.wd) (arr r.1 KS o.dep^arr r.2.1 KS o.dr^arr r.2.2.1 KI o.ft)^G):=h.le tk.le
 obtain ⟨hr,h⟩:=h.purP
 exact ⟨hr,h.fin⟩
theorem nil_rarr (A:SP) (K:Ks):Le A (A^rarr ⟨none,0,0⟩ K []) :=
 (star_emp A).trans (star_mono Le.rfl fun w S R h=>⟨⟨⟨by simp [flat],fun _=>rfl,fun q hq=>by cases hq⟩,rfl⟩,h.1,fun k=>⟨fun hk=>absurd hk (h.2 k),fun hk=>absurd rfl hk.2⟩⟩)
theorem do0_tri (b:Nat) (k:Int) (v:Mc) (hv:OkMc k v) (hk:k < 1000000) (d:Dd) (hd:OkD d) (hR:dR d=⟨none,0,0⟩) :
  Tri Tryz.prog N_egress_Machine_Do [.lf (.ptr (some ⟨b,0⟩)),.agg (Ks.mk KD d)] [.agg KOu,.lf (.int .i64)] (mach b v) (fun r=>pur (r.2=(doF v d []).1.2) (mach b (doF v d []).2^outR r.1 (doF v d []).1.1)) :=
 (do_tri b k v hv hk d hd [] (by simp)).le (by rw [hR];exact nil_rarr _ _) (fun _=>Le.rfl)
abbrev plainC:Cf:=(3000,15000,100,50,10000000000,0,false,100000,1000)
abbrev dOpen (s:Int):Dd:=(1,s,0,0,0,⟨none,0,0⟩,0,0,0,0,0,0,false,0,0)
abbrev dSend (s n:Int):Dd:=(2,s,n,0,0,⟨none,0,0⟩,0,0,0,0,0,0,false,0,0)
abbrev dPull:Dd:=(6,0,0,0,0,⟨none,0,0⟩,0,0,0,0,0,0,false,0,0)
theorem dOpen_ok (s:Int):OkD (dOpen s):=⟨(by decide:(0:Int) < 9223372036854775808),U_lit 0,U_lit 0,(by decide:(0:Int)≤0),U_lit 0⟩
theorem dSend_ok (s n:Int) (h:n < 9223372036854775808):OkD (dSend s n):=⟨h,U_lit 0,U_lit 0,(by decide:(0:Int)≤0),U_lit 0⟩
theorem dPull_ok:OkD dPull:=⟨(by decide:(0:Int) < 9223372036854775808),U_lit 0,U_lit 0,(by decide:(0:Int)≤0),U_lit 0⟩
end EgH

namespace EgI
open Arith ArithC TreeF FqM FqC SockC EgM EgA EgB EgC EgD EgE EgF EgG EgH
open SockM (Sk emitS doneS writeS loseS newS skFl skTso mayS)
theorem deedF_ok {p:OpE} (h:OkE p):OkD (deedF p.1) where
 l:=by
  show (if dL p.1 > 200000 then 200000 else dL p.1) < 9223372036854775808
  split<;>omega
 u:=h.u
 a:=h.a
 c:=h.c
theorem do_step (v:Mc) (d:Dd) (xs:List (Int × Int)):(doF v d xs).2=(stepM v d xs).2.2:=by unfold doF;split<;>rfl
end EgI

namespace EgJ
open Arith ArithC TreeF FqM FqC SockC EgM EgA EgB EgC EgD EgE EgF EgG EgH EgI
open SockM (Sk emitS doneS writeS loseS newS skFl skTso mayS)
open SockO (IvS)
open SockV (IvB)
def sgO (x:Option Fl):List Sg:=match x with
 | none=>[]
 | some f=>f.sg
theorem cnt_sg (x:Option Fl):cnt x=((sgO x).length:Int):=by cases x<;>rfl
theorem coll_sg (v:Qm) (t:Int) (j:Nat):sgO ((collectF v t).fl j)=sgO (v.fl j):=by
 show sgO (if _ then _ else _)=_
 split
 ·rename_i e
  obtain ⟨f,hf,hs,_⟩:=FqM.idle_some e
  rw [hf]
  exact hs.symm
 ·rfl
theorem enq_sg (v:Qm) (s:Sg) (t:Int) (hk:0≤sK s∧sK s≤7) (hl:1≤sLn s∧sLn s≤65536):((enqF v s t).1=(0,0)∧∀ j,sgO ((enqF v s t).2.fl j)=sgO (v.fl j)++if j=(sK s).toNat then [drawn v s t] else []) ∨
  (((enqF v s t).1=(2,0)∨(enqF v s t).1=(3,0)∨(enqF v s t).1=(4,0))∧∀ j,sgO ((enqF v s t).2.fl j)=sgO (v.fl j)):=by
 unfold enqF
 rw [if_neg (fun h=>h hk),if_neg (fun h=>h hl)]
 split
 ·refine .inl ⟨rfl,fun j=>?_⟩
  dsimp only
  rw [FqM.add_eq]
  show sgO (upF (collectF v t).fl (sK s).toNat _ j)=_
  by_cases e:j=(sK s).toNat
  ·rw [e,upF_same,if_pos rfl]
   show ((woken (collectF v t) (sK s).toNat t).sg++[drawn v s t])=_
   rw [woken_sg,← coll_sg v t]
   cases (collectF v t).fl (sK s).toNat<;>rfl
  ·rw [upF_ne _ _ e,if_neg e,coll_sg,List.append_nil]
 ·rename_i hf
  refine .inr ⟨?_,coll_sg v t⟩
  rcases FqT.fate_ne hf with h | h | h
  ·left;show (_,(0:Int))=_;rw [h]
  ·right;left;show (_,(0:Int))=_;rw [h]
  ·right;right;show (_,(0:Int))=_;rw [h]
theorem same_sg {u v:Qm} (h:FqQ.Same u v) (j:Nat):sgO (v.fl j)=sgO (u.fl j):=by
 have:=h j
 cases hu:u.fl j with
 | none =>
  rw [hu] at this
  cases hv:v.fl j with
  | none=>rfl
  | some g=>rw [hv] at this;cases this
 | some f =>
  obtain ⟨g,hg,_,hs,_⟩:=h.to hu
  rw [hg]
  exact hs
theorem deq_sg {v:Qm} (hv:OkQ v) {t:Int} (ut:U t) {rates:List Int} (hr:∀ x∈rates,U x) :
  ((deqF v t rates).1=none∧∀ j,sgO ((deqF v t rates).2.fl j)=sgO (v.fl j))∨∃ (i:Nat) (s:Sg),(deqF v t rates).1=some s∧(sK s=(i:Int)∧i < 8)∧∀ j,sgO (v.fl j)=(if j=i then [s] else [])++sgO ((deqF v t rates).2.fl j):=by
 obtain ⟨u,hu,hc⟩:=FqQ.ran hv ut hr
 rcases hc with ⟨_,he⟩ | ⟨i,f,s,l,hA,hcr,hs,htf,he⟩
 ·left
  rw [he]
  exact ⟨rfl,same_sg hu.same⟩
 ·right
  have hF:=(hu.ok.fl i f hA.fl).2
  obtain ⟨hsk,hso⟩:=hF.sg s (by rw [hs];simp)
  rw [he]
  refine ⟨i,s,rfl,⟨hsk,hA.lt⟩,fun j=>?_⟩
  rw [← same_sg hu.same j]
  show _=_++sgO (upF u.fl i _ j)
  by_cases e:j=i
  ·rw [e,upF_same,if_pos rfl,hA.fl]
   show f.sg=_
   rw [hs];rfl
  ·rw [upF_ne _ _ e,if_neg e]
   rfl
theorem close_sg (v:Qm) (i:Nat) (hi:i < 8):(closeF v (i:Int)).1=sgO (v.fl i)∧∀ j,sgO ((closeF v (i:Int)).2.fl j)=if j=i then [] else sgO (v.fl j):=by
 cases hf:v.fl i with
 | none =>
  have e:closeF v (i:Int)=([],v):=by unfold closeF;rw [if_neg (by omega),Int.toNat_natCast,hf]
  rw [e]
  refine ⟨rfl,fun j=>?_⟩
  by_cases ej:j=i
  ·rw [if_pos ej,ej];show sgO (v.fl i)=_;rw [hf];rfl
  ·rw [if_neg ej]
 | some f =>
  have e:(closeF v (i:Int)).1=f.sg∧(closeF v (i:Int)).2.fl=upF v.fl i none:=by unfold closeF;rw [if_neg (by omega),Int.toNat_natCast,hf];exact ⟨rfl,rfl⟩
  rw [e.1,e.2]
  refine ⟨rfl,fun j=>?_⟩
  by_cases ej:j=i
  ·rw [ej,upF_same,if_pos rfl];rfl
  ·rw [upF_ne _ _ ej,if_neg ej]
theorem sg_id {v:Qm} (hv:OkQ v) {i:Nat} {s:Sg} (h:s∈sgO (v.fl i)):sK s=(i:Int):=by
 cases hf:v.fl i with
 | none=>rw [hf] at h;cases h
 | some f=>rw [hf] at h;exact ((hv.fl i f hf).2.sg s h).1
abbrev b0 (c:Ct):Int:=c.2.1
abbrev b1 (c:Ct):Int:=c.2.2.1
abbrev b2 (c:Ct):Int:=c.2.2.2.1
abbrev b3 (c:Ct):Int:=c.2.2.2.2.1
abbrev b4 (c:Ct):Int:=c.2.2.2.2.2.1
abbrev b5 (c:Ct):Int:=c.2.2.2.2.2.2.1
structure Bk (B:Int) (c:Ct) (n:Int):Prop where
 z:c.1=0
 p1:0≤b1 c
 p2:0≤b2 c
 p3:0≤b3 c
 p4:0≤b4 c
 p5:0≤b5 c
 q:cWt c=n
 nn:0≤n
 s:b0 c=b1 c+b2 c+b3 c+b4 c+b5 c+n
 b:b0 c≤B
theorem Bk.le {B D:Int} {c:Ct} {n:Int} (h:Bk B c n) (hb:B≤D):Bk D c n:={ h with b:=Int.le_trans h.b hb }
theorem inc_eq {n:Int} (h:0≤n∧n < 4611686018427387904):inc n=n+1:=wi (by omega) (by omega)
theorem dec_eq {n:Int} (h:0≤n∧n < 4611686018427387904):dec n=n - 1:=wi (by omega) (by omega)
theorem bk_in {B:Int} {c:Ct} {n:Int} (h:Bk B c n) (hB:B < 1152921504606846976):Bk (B+1) (note1 c 0).2 (n+1)∧b5 (note1 c 0).2=b5 c∧b1 (note1 c 0).2=b1 c∧b0 (note1 c 0).2=b0 c+1:=by
 obtain ⟨z,p1,p2,p3,p4,p5,q,hn,s,b⟩:=h
 have e:note1 c 0=(0,(c.1,inc (b0 c),b1 c,b2 c,b3 c,b4 c,b5 c,inc (cWt c))):=rfl
 rw [e,inc_eq (n:=b0 c) (by omega),inc_eq (n:=cWt c) (by omega)]
 exact ⟨⟨z,p1,p2,p3,p4,p5,by show cWt c+1=n+1;omega,by omega,by show b0 c+1=_;show b0 c+1=b1 c+b2 c+b3 c+b4 c+b5 c+(n+1);omega,by show b0 c+1≤B+1;omega⟩,rfl,rfl,rfl⟩
theorem bk_out {B:Int} {c:Ct} {n:Int} (h:Bk B c n) (hB:B < 1152921504606846976) (hn:1≤n) {f:Int} (hf:1≤f∧f≤5):Bk B (note1 c f).2 (n - 1)∧(f=5→b5 (note1 c f).2=b5 c+1)∧(f≠5→b5 (note1 c f).2=b5 c)∧(f=1→b1 (note1 c f).2=b1 c+1)∧(f≠1→b1 (note1 c f).2=b1 c)∧b0 (note1 c f).2=b0 c:=by
 obtain ⟨z,p1,p2,p3,p4,p5,q,hn0,s,b⟩:=h
 have e:note1 c f=(0,bump (wait c (dec (cWt c))) f):=by
  unfold note1
  rw [if_neg (by omega),if_neg (by omega),if_neg (by omega)]
 have d:=dec_eq (n:=cWt c) (by omega)
 have i1:=inc_eq (n:=b1 c) (by omega)
 have i2:=inc_eq (n:=b2 c) (by omega)
 have i3:=inc_eq (n:=b3 c) (by omega)
 have i4:=inc_eq (n:=b4 c) (by omega)
 have i5:=inc_eq (n:=b5 c) (by omega)
 rw [e,d]
 have:f=1∨f=2∨f=3∨f=4∨f=5:=by omega
 rcases this with rfl | rfl | rfl | rfl | rfl
 ·have e2:bump (wait c (cWt c - 1)) 1=(c.1,b0 c,inc (b1 c),b2 c,b3 c,b4 c,b5 c,cWt c - 1):=rfl
  rw [e2,i1]
  exact ⟨⟨z,(by show 0≤b1 c+1;omega),p2,p3,p4,p5,(by show cWt c - 1=n - 1;omega),by omega,(by show b0 c=b1 c+1+b2 c+b3 c+b4 c+b5 c+(n - 1);omega),b⟩,fun x=>(by cases x),fun _=>rfl,fun _=>rfl,fun x=>absurd rfl x,rfl⟩
 ·have e2:bump (wait c (cWt c - 1)) 2=(c.1,b0 c,b1 c,inc (b2 c),b3 c,b4 c,b5 c,cWt c - 1):=rfl
  rw [e2,i2]
  exact ⟨⟨z,p1,(by show 0≤b2 c+1;omega),p3,p4,p5,(by show cWt c - 1=n - 1;omega),by omega,(by show b0 c=b1 c+(b2 c+1)+b3 c+b4 c+b5 c+(n - 1);omega),b⟩,fun x=>(by cases x),fun _=>rfl,fun x=>(by cases x),fun _=>rfl,rfl⟩
 ·have e2:bump (wait c (cWt c - 1)) 3=(c.1,b0 c,b1 c,b2 c,inc (b3 c),b4 c,b5 c,cWt c - 1):=rfl
  rw [e2,i3]
  exact ⟨⟨z,p1,p2,(by show 0≤b3 c+1;omega),p4,p5,(by show cWt c - 1=n - 1;omega),by omega,(by show b0 c=b1 c+b2 c+(b3 c+1)+b4 c+b5 c+(n - 1);omega),b⟩,fun x=>(by cases x),fun _=>rfl,fun x=>(by cases x),fun _=>rfl,rfl⟩
 ·have e2:bump (wait c (cWt c - 1)) 4=(c.1,b0 c,b1 c,b2 c,b3 c,inc (b4 c),b5 c,cWt c - 1):=rfl
  rw [e2,i4]
  exact ⟨⟨z,p1,p2,p3,(by show 0≤b4 c+1;omega),p5,(by show cWt c - 1=n - 1;omega),by omega,(by show b0 c=b1 c+b2 c+b3 c+(b4 c+1)+b5 c+(n - 1);omega),b⟩,fun x=>(by cases x),fun _=>rfl,fun x=>(by cases x),fun _=>rfl,rfl⟩
 ·have e2:bump (wait c (cWt c - 1)) 5=(c.1,b0 c,b1 c,b2 c,b3 c,b4 c,inc (b5 c),cWt c - 1):=rfl
  rw [e2,i5]
  exact ⟨⟨z,p1,p2,p3,p4,(by show 0≤b5 c+1;omega),(by show cWt c - 1=n - 1;omega),by omega,(by show b0 c=b1 c+b2 c+b3 c+b4 c+(b5 c+1)+(n - 1);omega),b⟩,fun _=>rfl,fun x=>absurd rfl x,fun x=>(by cases x),fun _=>rfl,rfl⟩
theorem noteL_eq (l:Nat→Ct) {i:Nat} (hi:i < 8) (f:Int):(noteL l (i:Int) f).2=EgM.upL l i (note1 (l i) f).2:=by
 unfold noteL
 rw [if_neg (by omega),Int.toNat_natCast]
def BkL (B:Int) (l:Nat→Ct) (fl:Nat→Option Fl):Prop:=∀ i,i < 8→Bk B (l i) (cnt (fl i))
theorem BkL.le {B D:Int} {l:Nat→Ct} {fl:Nat→Option Fl} (h:BkL B l fl) (hb:B≤D):BkL D l fl:=fun i hi=>(h i hi).le hb
theorem BkL.same {B:Int} {l:Nat→Ct} {fl gl:Nat→Option Fl} (h:BkL B l fl) (hs:∀ j,sgO (gl j)=sgO (fl j)):BkL B l gl:=fun i hi=>by rw [cnt_sg,hs,← cnt_sg];exact h i hi
theorem pull_bk {k B:Int} {v:Mc} (hv:OkMc k v) (hb:BkL B v.l v.q.fl) (hB:B < 1152921504606846976) (o:Ou):BkL B (pullF v o).2.l (pullF v o).2.q.fl:=by
 unfold pullF
 rcases deq_sg hv.q hv.un (rates_U hv) with ⟨h1,h2⟩ | ⟨i,s,h1,⟨h3,h4⟩,h2⟩
 ·cases hd:deqF v.q v.now (ratesF v.so) with
  | mk x q =>
  rw [hd] at h1 h2
  dsimp only at h1
  subst h1
  exact hb.same h2
 ·cases hd:deqF v.q v.now (ratesF v.so) with
  | mk x q =>
  rw [hd] at h1 h2
  dsimp only at h1
  subst h1
  show BkL B (noteL v.l (sK s) 1).2 q.fl
  rw [h3,noteL_eq v.l h4]
  intro j hj
  have hj2:=h2 j
  have hbj:=hb j hj
  by_cases e:j=i
  ·rw [e] at hj2 hbj ⊢
   rw [EgM.upL_same]
   rw [if_pos rfl] at hj2
   have hc:cnt (v.q.fl i)=cnt (q.fl i)+1:=by rw [cnt_sg,cnt_sg,hj2];simp
   have:=(bk_out hbj hB (by rw [hc];have:=cnt_nn (q.fl i);omega) (f:=1) (by omega)).1
   rw [hc] at this
   rw [show cnt (q.fl i)=cnt (q.fl i)+1 - 1 by omega];exact this
  ·rw [EgM.upL_ne _ _ e]
   rw [if_neg e,List.nil_append] at hj2
   rw [cnt_sg,← hj2,← cnt_sg];exact hbj
theorem enter_bk {k B now : Int} {i : Nat} (hi : i < 8) {s : Pm} (h : OkPm k i s) (hn : U now) (he : (emitS s.v now).1.2 = 0) (hb : BkL B s.l s.q.fl) (hB : B < 1152921504606846975) : BkL (B + 1) (enter i now s).1.l (enter i now s).1.q.fl := by
  have hw := went_of h.v hn he
  have hg1 : sK (emitS s.v now).1.1 = (i : Int) := hw.id.trans h.id
  have hg2 : 1 ≤ sLn (emitS s.v now).1.1 ∧ sLn (emitS s.v now).1.1 ≤ 65536 := hw.n
  obtain ⟨g, hg⟩ : ∃ g, g = (emitS s.v now).1.1 := ⟨_, rfl⟩
  have hin := bk_in (hb i hi) (by omega)
  rw [← hg] at hg1 hg2
  have een : enter i now s = if (enqF s.q g now).1.1 = 0 then (⟨(emitS s.v now).2, (enqF s.q g now).2, (noteL s.l i 0).2, s.o⟩, 0)
        else (⟨(doneS (emitS s.v now).2 g.2.2.1).2, (enqF s.q g now).2, (dropF (noteL s.l i 0).2 s.o g (enqF s.q g now).1.1).2, (dropF (noteL s.l i 0).2 s.o g (enqF s.q g now).1.1).1⟩, 1) := by
    rw [hg]; rfl
  have hgn : (sK g).toNat = i := by omega
  rcases enq_sg s.q g now (by omega) hg2 with ⟨h1, h2⟩ | ⟨h1, h2⟩
  · rw [if_pos (by rw [h1])] at een
    rw [een]
    show BkL (B + 1) (noteL s.l i 0).2 (enqF s.q g now).2.fl
    rw [noteL_eq s.l hi]
    intro j hj
    by_cases e : j = i
    · rw [e, EgM.upL_same, cnt_sg, h2, hgn, if_pos rfl, List.length_append, List.length_singleton]
      have := hin.1
      rw [cnt_sg] at this
      exact_mod_cast this
    · rw [EgM.upL_ne _ _ e, cnt_sg, h2, hgn, if_neg e, List.append_nil, ← cnt_sg]
      exact (hb j hj).le (by omega)
  · have hne : ¬ (enqF s.q g now).1.1 = 0 := by rcases h1 with h | h | h <;> rw [h] <;> (show ¬ (_ : Int) = 0; decide)
    have hfr : 1 ≤ (enqF s.q g now).1.1 ∧ (enqF s.q g now).1.1 ≤ 5 := by
      rcases h1 with h | h | h <;> rw [h]
      · show (1:Int) ≤ 2 ∧ (2:Int) ≤ 5; decide
      · show (1:Int) ≤ 3 ∧ (3:Int) ≤ 5; decide
      · show (1:Int) ≤ 4 ∧ (4:Int) ≤ 5; decide
    rw [if_neg hne] at een
    rw [een]
    show BkL (B + 1) (noteL (noteL s.l i 0).2 (sK g) (enqF s.q g now).1.1).2 (enqF s.q g now).2.fl
    rw [hg1, noteL_eq s.l hi, noteL_eq _ hi]
    intro j hj
    rw [cnt_sg, h2, ← cnt_sg]
    by_cases e : j = i
    · rw [e, EgM.upL_same, EgM.upL_same]
      have := (bk_out hin.1 (by omega) (by have := (hb i hi).nn; omega) hfr).1
      rw [show cnt (s.q.fl i) + 1 - 1 = cnt (s.q.fl i) by omega] at this
      exact this
    · rw [EgM.upL_ne _ _ e, EgM.upL_ne _ _ e]
      exact (hb j hj).le (by omega)
theorem pumpN_bk {k now:Int} {i:Nat} (hi:i < 8) (hn:U now):∀ (n:Nat) (s:Pm) (B:Int),OkPm k i s→BkL B s.l s.q.fl→B+n < 1152921504606846975→BkL (B+n) (pumpN i now n s).l (pumpN i now n s).q.fl
 | 0,s,B,_,hb,_=>by show BkL (B+(0:Nat)) s.l s.q.fl;rw [show B+((0:Nat):Int)=B by omega];exact hb
 | n+1,s,B,h,hb,hB=>by
  unfold pumpN
  by_cases he:(emitS s.v now).1.2=0
  ·rw [if_neg (fun c=>c he)]
   have h1:=(enter_ok h hn he).1
   have h2:=enter_bk hi h hn he hb (by omega)
   split
   ·have:=pumpN_bk hi hn n _ (B+1) h1 h2 (by omega)
    rw [show B+1+(n:Int)=B+((n+1:Nat):Int) by omega] at this
    exact this
   ·exact h2.le (by omega)
  ·rw [if_pos he]
   exact hb.le (by omega)
theorem fresh_r {k:Int} {x:Sk} (h:IvS k x):(fresh x:Int)≤1073745920:=by
 have h1:=h.ok.bf.ll
 have h2:=h.ok.bf.l
 have h3:=h.ok.bf.un
 have h4:=h.ok.bf.nw
 have h5:=h.ok.bl
 have h6:=List.countP_le_length (p:=fun p=>Board.pLo p) (l:=x.bd.1)
 have e:fresh x=(SockA.bW x.bf - SockA.bN x.bf).toNat+x.bd.1.countP (fun p=>Board.pLo p):=rfl
 rw [e];omega
theorem drops_bk {B:Int} {i:Nat} (hi:i < 8) (hB:B < 1152921504606846976):∀ (ss:List Sg) (l:Nat→Ct) (o:Ou),(∀ s∈ss,sK s=(i:Int))→Bk B (l i) (ss.length:Int)→Bk B ((dropsF l o ss).2 i) 0∧b5 ((dropsF l o ss).2 i)=b5 (l i)+(ss.length:Int)∧b1 ((dropsF l o ss).2 i)=b1 (l i)∧b0 ((dropsF l o ss).2 i)=b0 (l i)∧∀ j,j≠i→(dropsF l o ss).2 j=l j
 | [],l,o,_,hb=>⟨hb,by show b5 (l i)=b5 (l i)+((0:Nat):Int);omega,rfl,rfl,fun _ _=>rfl⟩
 | s :: ss,l,o,hs,hb=>by
  have hk:=hs s (List.mem_cons_self ..)
  have e:(dropF l o s 5).2=EgM.upL l i (note1 (l i) 5).2:=by show (noteL l (sK s) 5).2=_;rw [hk,noteL_eq l hi]
  rw [List.length_cons] at hb ⊢
  obtain ⟨c1,c2,_,_,c5,c6⟩:=bk_out hb hB (by omega) (f:=5) (by omega)
  obtain ⟨d1,d2,d3,d4,d5⟩:=drops_bk hi hB ss (dropF l o s 5).2 (dropF l o s 5).1 (fun x hx=>hs x (List.mem_cons_of_mem _ hx)) (by rw [e,EgM.upL_same];rw [show (ss.length:Int)=((ss.length+1:Nat):Int) - 1 by omega];exact c1)
  have x5:b5 ((dropF l o s 5).2 i)=b5 (l i)+1:=by rw [e,EgM.upL_same];exact c2 rfl
  have x1:b1 ((dropF l o s 5).2 i)=b1 (l i):=by rw [e,EgM.upL_same];exact c5 (by decide)
  have x0:b0 ((dropF l o s 5).2 i)=b0 (l i):=by rw [e,EgM.upL_same];exact c6
  exact ⟨d1,by show b5 ((dropsF (dropF l o s 5).2 (dropF l o s 5).1 ss).2 i)=_;omega,d3.trans x1,d4.trans x0,fun j hj=>by
   show (dropsF (dropF l o s 5).2 (dropF l o s 5).1 ss).2 j=l j
   rw [d5 j hj,e,EgM.upL_ne _ _ hj]⟩
theorem shut_bk {k B:Int} {v:Mc} (hv:OkMc k v) (hb:BkL B v.l v.q.fl) (hB:B < 1152921504606846976) {i:Nat} (hi:i < 8) (o:Ou):BkL B (shutM v i o).2.l (shutM v i o).2.q.fl∧b5 ((shutM v i o).2.l i)=b5 (v.l i)+((closeF v.q (i:Int)).1.length:Int):=by
 obtain ⟨c1,c2⟩:=close_sg v.q i hi
 have hids:∀ s∈(closeF v.q (i:Int)).1,sK s=(i:Int):=fun s hs=>by rw [c1] at hs;exact sg_id hv.q hs
 have hbi:=hb i hi
 rw [cnt_sg,← c1] at hbi
 obtain ⟨d1,d2,_,_,d5⟩:=drops_bk hi hB (closeF v.q (i:Int)).1 v.l o hids hbi
 refine ⟨fun j hj=>?_,d2⟩
 show Bk B ((dropsF v.l o (closeF v.q (i:Int)).1).2 j) (cnt ((closeF v.q (i:Int)).2.fl j))
 rw [cnt_sg,c2 j]
 by_cases e:j=i
 ·rw [if_pos e,e];exact d1
 ·rw [if_neg e,d5 j e,← cnt_sg];exact hb j hj
theorem set_bk {B:Int} {v:Mc} (hb:BkL B v.l v.q.fl) (c:Cf):BkL B (setM v c).2.l (setM v c).2.q.fl:=by
 have e:(setF v.q c).2.fl=v.q.fl:=by unfold setF;split<;>rfl
 unfold setM
 split
 ·show BkL B v.l (setF v.q c).2.fl;rw [e];exact hb
 ·show BkL B v.l (setF v.q c).2.fl;rw [e];exact hb
theorem one_bk {k B:Int} {v:Mc} (hv:OkMc k v) (hk:k < 1000000) (hb:BkL B v.l v.q.fl) (hB:B < 1152921500000000000) (d:Dd) (xs:List (Int × Int)) (o:Ou):BkL (B+2147483648) (oneM v d xs o).2.2.l (oneM v d xs o).2.2.q.fl:=by
 have h0:BkL (B+2147483648) v.l v.q.fl:=hb.le (by omega)
 unfold oneM
 split
 ·exact h0
 ·rename_i hi
  have hi:0≤dS d∧dS d < 8:=Classical.not_not.1 hi
  have hi8:(dS d).toNat < 8:=by omega
  split
  ·split
   ·exact h0
   ·exact h0
  ·rename_i x hx
   obtain ⟨hxi,hxd,_⟩:=hv.so _ x hx
   split
   ·exact h0
   ·split
    ·exact (shut_bk hv hb (by omega) hi8 o).1.le (by omega)
    ·obtain ⟨a,b⟩:=told_ok hxi hk hv.un d xs
     split
     ·have hs:OkPm (k+1) ((dS d).toNat:Int) ⟨(toldF x v.now d xs).2,v.q,v.l,o⟩:=⟨a,b.trans hxd,hv.q⟩
      have hfr:=fresh_r a.i
      have:=pumpN_bk hi8 hv.un (fresh (toldF x v.now d xs).2+1) ⟨(toldF x v.now d xs).2,v.q,v.l,o⟩ B hs hb (by omega)
      exact this.le (by omega)
     ·exact h0
theorem do_bk {k B:Int} {v:Mc} (hv:OkMc k v) (hk:k < 1000000) (hb:BkL B v.l v.q.fl) (hB:B < 1152921500000000000) (d:Dd) (xs:List (Int × Int)):BkL (B+2147483648) (doF v d xs).2.l (doF v d xs).2.q.fl:=by
 have h0:BkL (B+2147483648) v.l v.q.fl:=hb.le (by omega)
 rw [do_step]
 unfold stepM
 split
 ·exact h0
 ·split
  ·exact (pull_bk hv hb (by omega) ou0).le (by omega)
  ·split
   ·exact set_bk h0 _
   ·split
    ·exact one_bk hv hk hb hB d xs ou0
    ·exact h0
theorem new_bk (c:Cf):BkL 0 (newM c).l (newM c).q.fl:=fun i _=>⟨rfl,Int.le_refl 0,Int.le_refl 0,Int.le_refl 0,Int.le_refl 0,Int.le_refl 0,rfl,Int.le_refl 0,rfl,Int.le_refl 0⟩
end EgJ

namespace EgK
open Arith ArithC TreeF FqM FqC SockC EgM EgA EgB EgC EgD EgE EgF EgG EgH EgI EgJ
open SockM (Sk emitS doneS writeS loseS newS skFl skTso mayS)
section
variable {w0 w : World} {S R : Nat → Prop}
theorem w_deed {b:Nat} {v:Mc} {r4 s:Sl} {ps:List OpE} {ds:List Dd} {k:Int} (h:Own w0 S R w (mach b v^arr r4 KD ds^opsE s ps)) (hv:OkMc k v) (hk:k < 1000000) (hp:∀ p∈ps,OkE p) {i:Nat} {p:OpE} (hpi:ps[i]?=some p)
  {A:Rs.T [.agg KOu,.lf (.int .i64)]→WP} (hA:∀ (r:Rs.T [.agg KOu,.lf (.int .i64)]) (w:World),r.2=(doF v (deedF p.1) (p.2.take 6)).1.2→Own w0 S R w (mach b (doF v (deedF p.1) (p.2.take 6)).2^outR r.1 (doF v (deedF p.1) (p.2.take 6)).1.1^arr r4 KD ds^opsE s ps)→A r w) :
  call Tryz.prog N_egress_Machine_Do [.lf (.ptr (some ⟨b,0⟩)),.agg (Ks.mk KD (deedF p.1))] [.agg KOu,.lf (.int .i64)] A w:=by
 have hO:=hp p (List.mem_of_getElem? hpi)
 haveI:=rd_dR hpi
 have hdl:=(h.rd (s:=dR p.1)).2
 haveI:=rd_deed p (rl (fun p:OpE=>rarr (dR p.1) KR p.2) ps) hO.cp hdl
 obtain ⟨d,hd⟩:∃ d,d=deedF p.1:=⟨_,rfl⟩
 have hD:=deedF_ok hO
 rw [← hd] at hD this hA ⊢
 have hx6:(p.2.take 6).length≤4294967296:=by rw [List.length_take];omega
 refine w_callL (A:=mach b v) (Q:=rarr (dR d) KR (p.2.take 6)) (do_tri b k v hv hk d hD (p.2.take 6) hx6) h fun r w h=>?_
 obtain ⟨hre,h⟩:=h.purP
 exact hA r w hre (h.le (star_assoc _ _ _))
end
abbrev c8 (c:Ct):List Int:=[c.1,b0 c,b1 c,b2 c,b3 c,b4 c,b5 c,cWt c]
end EgK

namespace EgL
open Arith ArithC TreeF FqM FqC SockC EgM EgA EgB EgC EgD EgE EgF EgG EgH EgI EgJ EgK
open SockM (Sk emitS doneS writeS loseS newS skFl skTso mayS)
section
variable {w0 w : World} {S R : Nat → Prop} {F G : SP}
theorem w_do0 {b:Nat} {v:Mc} {k:Int} {d:Dd} (h:Own w0 S R w F) [tk:TakeK EgB.mach b F v G] (hv:OkMc k v) (hk:k < 1000000) (hd:OkD d) (hR:dR d=⟨none,0,0⟩)
  {A:Rs.T [.agg KOu,.lf (.int .i64)]→WP} (hA:∀ (r:Rs.T [.agg KOu,.lf (.int .i64)]) (w:World),r.2=(doF v d []).1.2→Own w0 S R w (mach b (doF v d []).2^outR r.1 (doF v d []).1.1^G)→A r w) :
  call Tryz.prog N_egress_Machine_Do [.lf (.ptr (some ⟨b,0⟩)),.agg (Ks.mk KD d)] [.agg KOu,.lf (.int .i64)] A w:=by
 refine w_call (do0_tri b k v hv hk d hd hR) (h.le tk.le) fun r w h=>?_
 obtain ⟨hre,h⟩:=h.purP
 exact hA r w hre (h.le (star_assoc _ _ _))
end
abbrev dOne (k s n:Int):Dd:=(k,s,n,0,0,⟨none,0,0⟩,0,0,0,0,0,0,false,0,0)
theorem dOne_ok (k s n:Int) (h:n < 9223372036854775808):OkD (dOne k s n):=⟨h,U_lit 0,U_lit 0,(by decide:(0:Int)≤0),U_lit 0⟩
theorem open_eq (v:Mc) {s:Int} (hs:0≤s∧s < 8) (h:v.so s.toNat=none):doF v (dOne 1 s 0) []=((ou0,0),{ v with so:=upL v.so s.toNat (some (newS s (cMss v.c) (cCap v.c))) }):=by
 have e:stepM v (dOne 1 s 0) []=(0,ou0,{ v with so:=upL v.so s.toNat (some (newS s (cMss v.c) (cCap v.c))) }):=by
  show oneM v (dOne 1 s 0) [] ou0=_
  unfold oneM
  rw [if_neg (fun c=>c hs)]
  show (match v.so s.toNat with | none=>_ | some x=>_)=_
  rw [h]
  rfl
 unfold doF
 rw [e]
 rfl
end EgL

namespace EgO
open Arith ArithC TreeF FqM FqC SockC EgM EgA EgB EgC EgD EgE EgF EgG EgH EgI EgJ EgK EgL
open SockM (Sk emitS doneS writeS loseS newS skFl skTso mayS)
theorem no_eq (v:Mc) {k s:Int} (n:Int) (hk:k=2∨k=3∨k=4∨k=7∨k=9):(¬ (0≤s∧s < 8)→doF v (dOne k s n) []=((ou0,8),v))∧(0≤s∧s < 8→v.so s.toNat=none→doF v (dOne k s n) []=((ou0,10),v)):=by
 have e:stepM v (dOne k s n) []=oneM v (dOne k s n) [] ou0:=by rcases hk with rfl | rfl | rfl | rfl | rfl<;>rfl
 constructor
 ·intro hs
  unfold doF
  rw [e]
  unfold oneM
  rw [if_pos hs]
  rfl
 ·intro hs hv
  have e2:oneM v (dOne k s n) [] ou0=(10,ou0,v):=by
   unfold oneM
   rw [if_neg (fun c=>c hs)]
   show (match v.so s.toNat with | none=>_ | some x=>_)=_
   rw [hv]
   exact if_neg (by show ¬ k=1;omega)
  unfold doF
  rw [e,e2]
  rfl
theorem shut_eq (v:Mc) {s:Int} (hs:0≤s∧s < 8) {x:Sk} (h:v.so s.toNat=some x) (n:Int):doF v (dOne 9 s n) []=(((shutM v s.toNat ou0).1,0),(shutM v s.toNat ou0).2):=by
 have e:stepM v (dOne 9 s n) []=(0,(shutM v s.toNat ou0).1,(shutM v s.toNat ou0).2):=by
  show oneM v (dOne 9 s n) [] ou0=_
  unfold oneM
  rw [if_neg (fun c=>c hs)]
  show (match v.so s.toNat with | none=>_ | some x=>_)=_
  rw [h]
  rfl
 unfold doF
 rw [e]
 rfl
theorem send_eq (v:Mc) {s:Int} (hs:0≤s∧s < 8) {x:Sk} (h:v.so s.toNat=some x) {n:Int} (hn:(writeS x n).1=0):doF v (dOne 2 s n) []=(((pumpM v s.toNat (writeS x n).2 ou0).1,0),(pumpM v s.toNat (writeS x n).2 ou0).2):=by
 have e:stepM v (dOne 2 s n) []=(0,(pumpM v s.toNat (writeS x n).2 ou0).1,(pumpM v s.toNat (writeS x n).2 ou0).2):=by
  show oneM v (dOne 2 s n) [] ou0=_
  unfold oneM
  rw [if_neg (fun c=>c hs)]
  show (match v.so s.toNat with | none=>_ | some x=>_)=_
  rw [h]
  show (if (writeS x n).1=0 then _ else _)=_
  rw [if_pos hn]
  rfl
 unfold doF
 rw [e]
 rfl
end EgO

namespace EgP
open Arith ArithC TreeF FqM FqC SockC EgM EgA EgB EgC EgD EgE EgF EgG EgH EgI EgJ EgK EgL
open SockM (Sk emitS doneS writeS loseS newS skFl skTso mayS)
section
variable {w0 w : World} {S R : Nat → Prop}
end
def fill {α:Type} (f:Nat→α) (z:α) (y:Nat):List α:=[if 0 < y then f 0 else z,if 1 < y then f 1 else z,if 2 < y then f 2 else z,if 3 < y then f 3 else z,if 4 < y then f 4 else z,if 5 < y then f 5 else z,if 6 < y then f 6 else z,if 7 < y then f 7 else z]
abbrev fC (v:Mc) (j:Nat):Ks.T KCt:=countL v.l (j:Int)
end EgP

namespace EgQ
open Arith ArithC TreeF FqM FqC SockC EgM EgA EgB EgC EgD EgE EgF EgG EgH EgI EgJ EgK EgL
open SockM (Sk emitS doneS writeS loseS newS skFl skTso mayS)
abbrev d0:Dd:=(0,0,0,0,0,⟨none,0,0⟩,0,0,0,0,0,0,false,0,0)
abbrev pAt (ps:List OpE) (j:Nat):OpE:=ps.getD j (d0,[])
def runM (v:Mc) (ps:List OpE):Nat→Mc
 | 0=>v
 | j+1=>(doF (runM v ps j) (pAt ps j).1 (pAt ps j).2).2
def errsM (v:Mc) (ps:List OpE):Nat→List Int
 | 0=>[]
 | j+1=>errsM v ps j++[(doF (runM v ps j) (pAt ps j).1 (pAt ps j).2).1.2]
def lastO (v:Mc) (ps:List OpE):Nat→Ou
 | 0=>ou0
 | j+1=>(doF (runM v ps j) (pAt ps j).1 (pAt ps j).2).1.1
def lastR (rows:List (Ks.T KOu)) (o:Ou):SP:=match rows.getLast? with
 | none=>emp
 | some r=>outR r o
instance (rows:List (Ks.T KOu)) (o:Ou):NoR (lastR rows o):=by unfold lastR;split<;>infer_instance
theorem lastR_app (rows:List (Ks.T KOu)) (r:Ks.T KOu) (o:Ou):lastR (rows++[r]) o=outR r o:=by
 unfold lastR
 rw [List.getLast?_concat]
theorem errs_len (v:Mc) (ps:List OpE):∀ j,(errsM v ps j).length=j
 | 0=>rfl
 | j+1=>by show (errsM v ps j++[_]).length=_;rw [List.length_append,errs_len v ps j];rfl
theorem runM_ok {c:Cf} (hc:OkC c) {ps:List OpE} (hd:∀ p∈ps,OkD p.1):∀ j:Nat,j≤1000→j≤ps.length→OkMc (j:Int) (runM (newM c) ps j)
 | 0,_,_=>new_ok hc
 | j+1,h1,h2=>by
  have hj:pAt ps j=ps[j]:=by unfold pAt;rw [List.getD_eq_getElem?_getD,List.getElem?_eq_getElem (by omega)];rfl
  have:=do_ok (runM_ok hc hd j (by omega) (by omega)) (by omega) (hd (pAt ps j) (by rw [hj];exact List.getElem_mem _)) (pAt ps j).2
  rw [show (j:Int)+1=((j+1:Nat):Int) by omega] at this
  exact this
theorem run_tri (c:Cf) (hm:may c=true) (hc:OkC c) (s:Sl) (ps:List OpE) (hl:ps.length≤1000) (hd:∀ p∈ps,OkD p.1) (hx:∀ p∈ps,p.2.length≤4294967296):Tri Tryz.prog N_script_Run [.agg (Ks.mk KC c),.lf (.sl s)] [.lf .sl,.lf .sl] (emp^opsE s ps)
  (fun r=>ex fun rows:List (Ks.T KOu)=>pur (rows.length=ps.length) (arr r.1 KOu rows^arr r.2 KI (errsM (newM c) ps ps.length)^lastR rows (lastO (newM c) ps ps.length))) :=
 tri_0 (call_script_Run c s) fun w0 S R h=>by
  unfold W_script_Run
  have hsl:=(h.rd (s:=s)).2
  rw [List.length_map] at hsl
  refine w_new h fun n1 w h=>w_ldAll (b:=n1) (x:=c) h rfl (w_call (EgE.new_tri c) (h.le ((star_emp _).trans (star_comm _ _))) fun r w h=>?_)
  obtain ⟨b,h⟩:=h.exP
  obtain ⟨hr,h⟩:=h.purP
  rw [if_pos hm] at hr h
  rw [hr]
  refine w_ite (fun c=>(by cases c)) fun _=>?_
  have h:=h.nil KOu
  have h:=h.nil KI
  have h:Own w0 S R w (mach b (runM (newM c) ps (0:Int).toNat)^arr ⟨none,0,0⟩ KOu []^arr ⟨none,0,0⟩ KI (errsM (newM c) ps (0:Int).toNat)^lastR [] (lastO (newM c) ps (0:Int).toNat)^opsE s ps):=Own.fin (A:=mach b (newM c)^arr ⟨none,0,0⟩ KOu []^arr ⟨none,0,0⟩ KI []^emp^opsE s ps) h
  refine w_loopE (fun (y:Sl × Sl × Int) (rows:List (Ks.T KOu))=>mach b (runM (newM c) ps y.2.2.toNat)^arr y.1 KOu rows^arr y.2.1 KI (errsM (newM c) ps y.2.2.toNat)^lastR rows (lastO (newM c) ps y.2.2.toNat)^opsE s ps) (fun (y:Sl × Sl × Int) rows=>(0≤y.2.2∧y.2.2≤ps.length)∧rows.length=y.2.2.toNat) (fun (y:Sl × Sl × Int) _=>((ps.length:Int) - y.2.2).toNat) [] h ⟨⟨Int.le_refl 0,by show (0:Int)≤_;omega⟩,rfl⟩ ?_
  rintro K (y:Sl × Sl × Int) rows w ⟨hyr,hrl⟩ h next
  obtain ⟨y1,y2,y3⟩:=y
  dsimp only at hyr hrl h next ⊢
  refine w_ite (fun c0=>?_) fun c0=>?_
  ·have c0:y3 < ((s.len:Nat):Int):=of_decide_eq_true c0
   have hlt:y3.toNat < ps.length:=by omega
   obtain ⟨p,hpi⟩:∃ p,ps[y3.toNat]?=some p:=⟨_,List.getElem?_eq_getElem hlt⟩
   have hpa:pAt ps y3.toNat=p:=by unfold pAt;rw [List.getD_eq_getElem?_getD,hpi];rfl
   have hdm:(ps.map Prod.fst)[y3.toNat]?=some p.1:=by rw [List.getElem?_map,hpi];rfl
   have hdl:y3.toNat < (ps.map Prod.fst).length:=by rw [List.length_map];exact hlt
   have hmem:=List.mem_of_getElem? hpi
   refine w_idx (s:=s) h hyr.1 hdl (w_ldE h s y3.toNat hdm rfl ?_)
   refine w_new h fun n9 w h=>w_setTo h n9 (Ks.mk KD p.1) rfl rfl rfl fun w h=>w_ldAll (b:=n9) (x:=p.1) h rfl ?_
   haveI:=rd_dR hpi
   have hv:=runM_ok hc hd y3.toNat (by omega) (by omega)
   have h:Own w0 S R w (mach b (runM (newM c) ps y3.toNat)^(arr y1 KOu rows^arr y2 KI (errsM (newM c) ps y3.toNat))^opsE s ps):=h.fin
   refine w_callL (A:=mach b (runM (newM c) ps y3.toNat)) (Q:=rarr (dR p.1) KR p.2) (do_tri b _ _ hv (by omega) p.1 (hd p hmem) p.2 (hx p hmem)) h fun r w h=>?_
   obtain ⟨hre,h⟩:=h.purP
   obtain ⟨ro,re⟩:=r
   dsimp only at hre h ⊢
   rw [← hpa] at hre h
   have h:Own w0 S R w (outR ro (lastO (newM c) ps (y3.toNat+1))^mach b (runM (newM c) ps (y3.toNat+1))^arr y1 KOu rows^arr y2 KI (errsM (newM c) ps y3.toNat)^opsE s ps):=Own.fin (A:=outR ro (doF (runM (newM c) ps y3.toNat) (pAt ps y3.toNat).1 (pAt ps y3.toNat).2).1.1^mach b (doF (runM (newM c) ps y3.toNat) (pAt ps y3.toNat).1 (pAt ps y3.toNat).2).2^arr y1 KOu rows^arr y2 KI (errsM (newM c) ps y3.toNat)^opsE s ps) h
   refine w_new h fun n12 w h=>w_setTo h n12 (Ks.mk KOu ro) rfl rfl rfl fun w h=>w_ldAll (b:=n12) (x:=ro) h rfl ?_
   refine w_new h fun n14 w h=>?_
   have h:=h.blkArr n14 KOu [ro] rfl (by simp)
   have h:Own w0 S R w (arr ⟨some ⟨n14,0⟩,1,1⟩ KOu [ro]^_):=h
   have h:Own w0 S R w (arr y1 KOu rows^arr ⟨some ⟨n14,0⟩,1,1⟩ KOu [ro]^outR ro (lastO (newM c) ps (y3.toNat+1))^mach b (runM (newM c) ps (y3.toNat+1))^arr y2 KI (errsM (newM c) ps y3.toNat)^opsE s ps):=h.fin
   refine w_app (s:=y1) (x:=⟨some ⟨n14,0⟩,1,1⟩) h rfl (by rw [hrl];show _+1≤_;omega) fun s15 w _ h=>?_
   refine w_new h fun n16 w h=>?_
   have h:=h.blkArr n16 KI [re] rfl (by simp)
   have h:Own w0 S R w (arr ⟨some ⟨n16,0⟩,1,1⟩ KI [re]^_):=h
   have h:Own w0 S R w (arr y2 KI (errsM (newM c) ps y3.toNat)^arr ⟨some ⟨n16,0⟩,1,1⟩ KI [re]^arr s15 KOu (rows++[ro])^outR ro (lastO (newM c) ps (y3.toNat+1))^mach b (runM (newM c) ps (y3.toNat+1))^opsE s ps):=h.fin
   refine w_app (s:=y2) (x:=⟨some ⟨n16,0⟩,1,1⟩) h rfl (by rw [errs_len];show _+1≤_;omega) fun s17 w _ h=>?_
   have hwi:IntKind.i64.wrap (y3+1)=y3+1:=wi (by omega) (by omega)
   have he:errsM (newM c) ps y3.toNat++[re]=errsM (newM c) ps (y3.toNat+1):=by rw [hre];rfl
   have h1:(y3+1).toNat=y3.toNat+1:=by omega
   rw [hwi]
   rw [he,← lastR_app rows ro] at h
   refine next (s15,s17,y3+1) (rows++[ro]) w ⟨⟨by show 0≤y3+1;omega,by show y3+1≤_;omega⟩,by show _=(y3+1).toNat;rw [List.length_append,hrl,h1];rfl⟩ ?_ (by show ((ps.length:Int) - (y3+1)).toNat < ((ps.length:Int) - y3).toNat;omega)
   show Own w0 S R w (mach b (runM (newM c) ps (y3+1).toNat)^arr s15 KOu (rows++[ro])^arr s17 KI (errsM (newM c) ps (y3+1).toNat)^lastR (rows++[ro]) (lastO (newM c) ps (y3+1).toNat)^opsE s ps)
   rw [h1]
   exact h.fin
  ·have c0:¬ y3 < ((s.len:Nat):Int):=of_decide_eq_false c0
   have e:y3.toNat=ps.length:=by omega
   rw [e] at h hrl
   exact Own.retE rows (Own.retP hrl h.fin)
abbrev awP:List OpE:=[(dOpen 0,[]),(dSend 0 500,[]),(dPull,[])]
theorem aw_eq:errsM (newM FqH.plainC) awP 3=[0,0,0]∧(lastO (newM FqH.plainC) awP 3).dep=[(0,0,500,0,false)]:=by decide +kernel
theorem tawake_tri:Tri Tryz.prog N_cantertop_awake [] [.lf .bool] emp (fun r=>pur (r=true) emp) :=
 tri_0 call_cantertop_awake fun w0 S R h=>by
  unfold W_cantertop_awake
  obtain ⟨h1,h2⟩:=aw_eq
  refine w_call FqH.plain_tri (h.le (star_emp _)) fun r w h=>?_
  obtain ⟨hr,h⟩:=h.purP;rw [hr]
  refine w_new h fun n2 w h=>?_
  have h:=h.blkArr n2 KD [dOpen 0,dSend 0 500,dPull] rfl (by simp)
  have h:Own w0 S R w (arr ⟨some ⟨n2,0⟩,3,3⟩ KD [dOpen 0,dSend 0 500,dPull]^emp):=h.fin
  refine w_callL (A:=emp) (Q:=rarr ⟨some ⟨n2,0⟩,3,3⟩ KD [dOpen 0,dSend 0 500,dPull]^rarr ⟨none,0,0⟩ KR []^rarr ⟨none,0,0⟩ KR []^rarr ⟨none,0,0⟩ KR []^emp) (run_tri FqH.plainC FqH.plain_may FqH.plain_ok ⟨some ⟨n2,0⟩,3,3⟩ awP (by decide) (by
   simp only [List.mem_cons,List.not_mem_nil,or_false]
   rintro p (rfl | rfl | rfl)
   ·exact dOpen_ok 0
   ·exact dSend_ok 0 500 (by decide)
   ·exact dPull_ok) (by
   simp only [List.mem_cons,List.not_mem_nil,or_false]
   rintro p (rfl | rfl | rfl)<;>exact Nat.zero_le _)) (h.le ((star_emp _).trans (star_comm _ _))) fun r w h=>?_
  obtain ⟨rows,h⟩:=h.exP
  obtain ⟨hl,h⟩:=h.purP
  obtain ⟨r1,r2⟩:=r
  have hl:rows.length=3:=hl
  obtain ⟨a,b,c,hrows⟩:∃ a b c,rows=[a,b,c]:=by
   match rows,hl with
   | [a,b,c],_=>exact ⟨a,b,c,rfl⟩
  rw [hrows] at h
  have h:Own w0 S R w (outR c (lastO (newM FqH.plainC) awP 3)^arr r1 KOu [a,b,c]^arr r2 KI (errsM (newM FqH.plainC) awP 3)^emp):=Own.fin (A:=outR c (lastO (newM FqH.plainC) awP 3)^arr r1 KOu [a,b,c]^arr r2 KI (errsM (newM FqH.plainC) awP 3)^emp) (F:=(arr r1 KOu [a,b,c]^arr r2 KI (errsM (newM FqH.plainC) awP 3)^outR c (lastO (newM FqH.plainC) awP 3))^_) h
  obtain ⟨c1,c2,c3,c4⟩:=c
  obtain ⟨_,h⟩:=h.outR (c1,c2,c3,c4)
  dsimp only at h
  rw [h1,h2] at h
  have l1:=(h.rd (s:=r1)).2
  have l2:=(h.rd (s:=r2)).2
  have l3:=(h.rd (s:=c1)).2
  dsimp only
  refine w_ite (fun _=>?_) fun c=>(by rw [l1,l2] at c;cases c)
  refine w_idx (s:=r2) h (by decide) (by show 2 < 3;decide) (w_ldE h r2 2 (y:=(0:Int)) rfl rfl (w_ite (fun _=>?_) fun c=>(by cases c)))
  refine w_idx (s:=r1) h (by decide) (by show 2 < 3;decide) (w_ldA h r1 2 0 ((c1,c2,c3,c4):Ks.T KOu) rfl rfl (by decide) (x:=c1) rfl (w_ite (fun _=>?_) fun c=>(by rw [l3] at c;cases c)))
  refine w_idx (s:=r1) h (by decide) (by show 2 < 3;decide) (w_ldA h r1 2 0 ((c1,c2,c3,c4):Ks.T KOu) rfl rfl (by decide) (x:=c1) rfl ?_)
  refine w_idx (s:=c1) h (by decide) (by show 0 < 1;decide) (w_ldA h c1 0 2 ((0,0,500,0,false):Sg) rfl rfl (by decide) (x:=(500:Int)) rfl ?_)
  exact Own.retP rfl h.emp'
end EgQ

namespace EgR
open Arith ArithC TreeF FqM FqC SockC EgM EgA EgB EgC EgD EgE EgF EgG EgH EgI EgJ EgK EgL EgO
open SockM (Sk emitS doneS writeS loseS newS skFl skTso mayS)
theorem coll_no {v:Qm} {t:Int} {j:Nat} (h:v.fl j=none):(collectF v t).fl j=none:=by
 show (if _ then _ else _)=none
 split
 ·rfl
 ·exact h
theorem enq_no {v:Qm} {s:Sg} {t:Int} {j:Nat} (hj:j≠(sK s).toNat) (h:v.fl j=none):(enqF v s t).2.fl j=none:=by
 unfold enqF
 split
 ·exact h
 ·split
  ·exact h
  ·split
   ·rw [FqM.add_eq]
    show (FqM.upF (collectF v t).fl (sK s).toNat _ j)=none
    rw [FqM.upF_ne _ _ hj]
    exact coll_no h
   ·exact coll_no h
theorem same_no {u v:Qm} (h:FqQ.Same u v) {j:Nat} (hj:u.fl j=none):v.fl j=none:=by
 have:=h j
 rw [hj] at this
 cases hv:v.fl j with
 | none=>rfl
 | some g=>rw [hv] at this;cases this
theorem deq_no {v:Qm} (hv:OkQ v) {t:Int} (ut:U t) {rates:List Int} (hr:∀ x∈rates,U x) {j:Nat} (h:v.fl j=none):(deqF v t rates).2.fl j=none:=by
 obtain ⟨u,hu,hc⟩:=FqQ.ran hv ut hr
 rcases hc with ⟨_,he⟩ | ⟨i,f,s,l,hA,hcr,hs,htf,he⟩
 ·rw [he];exact same_no hu.same h
 ·rw [he]
  have hj:j≠i:=fun e=>by
   have:=same_no hu.same h
   rw [e,hA.fl] at this;cases this
  show (FqM.upF u.fl i _ j)=none
  rw [FqM.upF_ne _ _ hj]
  exact same_no hu.same h
theorem close_no (v:Qm) (i:Nat) (hi:i < 8):(closeF v (i:Int)).2.fl i=none∧∀ j,v.fl j=none→(closeF v (i:Int)).2.fl j=none:=by
 cases hf:v.fl i with
 | none =>
  have e:closeF v (i:Int)=([],v):=by unfold closeF;rw [if_neg (by omega),Int.toNat_natCast,hf]
  rw [e];exact ⟨hf,fun _ h=>h⟩
 | some f =>
  have e:(closeF v (i:Int)).2.fl=FqM.upF v.fl i none:=by unfold closeF;rw [if_neg (by omega),Int.toNat_natCast,hf]
  rw [e]
  refine ⟨FqM.upF_same _ _ _,fun j h=>?_⟩
  by_cases ej:j=i
  ·rw [ej,FqM.upF_same]
  ·rw [FqM.upF_ne _ _ ej];exact h
theorem pumpN_no {k now:Int} {i:Nat} (hn:U now):∀ (n:Nat) (s:Pm),OkPm k i s→∀ j,j≠i→s.q.fl j=none→(pumpN i now n s).q.fl j=none
 | 0,s,_,j,hj,h=>h
 | n+1,s,hs,j,hj,h=>by
  unfold pumpN
  by_cases he:(emitS s.v now).1.2=0
  ·rw [if_neg (fun c=>c he)]
   have h1:=(enter_ok hs hn he).1
   have hw:=went_of hs.v hn he
   have hg1:sK (emitS s.v now).1.1=(i:Int):=hw.id.trans hs.id
   have h2:(enter i now s).1.q.fl j=none:=by
    have e:(enter i now s).1.q=(enqF s.q (emitS s.v now).1.1 now).2:=by unfold enter;dsimp only;split<;>rfl
    rw [e]
    exact enq_no (by omega) h
   split
   ·exact pumpN_no hn n _ h1 j hj h2
   ·exact h2
  ·rw [if_pos he];exact h
def NoF (v:Mc):Prop:=∀ j,j < 8→v.so j=none→v.q.fl j=none
theorem pull_no {k:Int} {v:Mc} (hv:OkMc k v) (h:NoF v) (o:Ou):NoF (pullF v o).2:=by
 intro j hj hs
 have hd:=fun (h:v.q.fl j=none)=>deq_no hv.q hv.un (rates_U hv) h
 unfold pullF at hs ⊢
 split
 ·rename_i x q e
  rw [e] at hd hs
  exact hd (h j hj hs)
 ·rename_i q e
  rw [e] at hd hs
  exact hd (h j hj hs)
theorem do_no {k:Int} {v:Mc} (hv:OkMc k v) (hk:k < 1000000) (h:NoF v) (d:Dd) (xs:List (Int × Int)):NoF (doF v d xs).2:=by
 rw [do_step]
 unfold stepM
 split
 ·exact h
 ·split
  ·exact pull_no hv h _
  ·split
   ·show NoF (setM v (dC d)).2
    intro j hj hs
    have e1:(setM v (dC d)).2.so=v.so:=by unfold setM;split<;>rfl
    have e2:(setM v (dC d)).2.q.fl=v.q.fl:=by
     have e:(setF v.q (dC d)).2.fl=v.q.fl:=by unfold setF;split<;>rfl
     unfold setM;split<;>exact e
    rw [e2];rw [e1] at hs
    exact h j hj hs
   ·split
    ·unfold oneM
     split
     ·exact h
     ·rename_i hi
      have hi:0≤dS d∧dS d < 8:=Classical.not_not.1 hi
      have hi8:(dS d).toNat < 8:=by omega
      split
      ·split
       ·intro j hj hs
        have hs:EgM.upL v.so (dS d).toNat _ j=none:=hs
        by_cases e:j=(dS d).toNat
        ·rw [e,EgM.upL_same] at hs;cases hs
        ·rw [EgM.upL_ne _ _ e] at hs;exact h j hj hs
       ·exact h
      ·rename_i x hx
       obtain ⟨hxi,hxd,_⟩:=hv.so _ x hx
       split
       ·exact h
       ·split
        ·obtain ⟨c1,c2⟩:=close_no v.q (dS d).toNat hi8
         intro j hj hs
         by_cases e:j=(dS d).toNat
         ·rw [e];exact c1
         ·have hs:EgM.upL v.so (dS d).toNat none j=none:=hs
          rw [EgM.upL_ne _ _ e] at hs
          exact c2 j (h j hj hs)
        ·obtain ⟨a,b⟩:=EgF.told_ok hxi hk hv.un d xs
         split
         ·intro j hj hs
          have hs:EgM.upL v.so (dS d).toNat _ j=none:=hs
          by_cases e:j=(dS d).toNat
          ·rw [e,EgM.upL_same] at hs;cases hs
          ·rw [EgM.upL_ne _ _ e] at hs
           have hpm:OkPm (k+1) ((dS d).toNat:Int) ⟨(toldF x v.now d xs).2,v.q,v.l,ou0⟩:=⟨a,b.trans hxd,hv.q⟩
           exact pumpN_no hv.un _ _ hpm j e (h j hj hs)
         ·intro j hj hs
          have hs:EgM.upL v.so (dS d).toNat _ j=none:=hs
          by_cases e:j=(dS d).toNat
          ·rw [e,EgM.upL_same] at hs;cases hs
          ·rw [EgM.upL_ne _ _ e] at hs;exact h j hj hs
    ·exact h
theorem new_no (c:Cf):NoF (newM c):=fun _ _ _=>rfl
theorem tso_300 {m:Int} (h:100≤m∧m≤9000):300≤SockB.tsoF (BbrMm.mNew m).rate m:=by
 have hm:BbrMm.mMss m=m:=by unfold BbrMm.mMss;(repeat' split)<;>omega
 by_cases c:m < 150
 ·have all:∀ n < 50,300≤SockB.tsoF (BbrMm.mNew (100+((n:Nat):Int))).rate (100+((n:Nat):Int)):=by decide +kernel
  have:=all (m - 100).toNat (by omega)
  rw [show (100:Int)+(((m - 100).toNat:Nat):Int)=m by omega] at this
  exact this
 ·have e:SockB.clampM m=m:=by unfold SockB.clampM;(repeat' split)<;>omega
  unfold SockB.tsoF
  rw [e]
  have h2:2≤(65536:Int) / m:=by
   rw [Int.le_ediv_iff_mul_le (by omega)];omega
  have hk:∀ k:Int,2≤k→300≤k * m:=fun k hk=>by
   have:=Int.mul_le_mul_of_nonneg_right hk (show 0≤m by omega)
   omega
  apply hk
  (repeat' split)<;>omega
end EgR

namespace EgS
open Arith ArithC TreeF FqM FqC SockC EgM EgA EgB EgC EgD EgE EgF EgG EgH EgI EgJ EgK EgL EgO EgQ EgR
open SockM (Sk emitS doneS writeS loseS newS skFl skTso mayS)
open SockV (IvB)
def wroteG (i m cap:Int):Sk:=⟨i,SockB.clampM m,cap,(300,0,0,1073741824),([],0),SockB.sp0,BbrMm.mNew (SockB.clampM m),0,0⟩
theorem wroteG_eq (i m cap:Int):writeS (newS i m cap) 300=(0,wroteG i m cap):=rfl
theorem may_7 {x:Sk} (h1:(Board.lostF x.bd.1).2=false) (h2:SockA.bW x.bf - SockA.bN x.bf=0):(mayS x).1≠0:=by
 unfold mayS
 rw [if_pos ⟨h1,h2⟩]
 show (7:Int)≠0
 decide
theorem emit_7 {x:Sk} {now:Int} (h:(mayS x).1≠0):(emitS x now).1.2≠0:=by
 unfold emitS
 rw [if_pos h];exact h
theorem firstG {k i m cap now:Int} (hm:100≤m∧m≤9000) (hx:IvB k (wroteG i m cap)) (hn:U now):(emitS (wroteG i m cap) now).1.2=0 ∧
  SockQ.gF (emitS (wroteG i m cap) now).1.1=0∧SockQ.gN (emitS (wroteG i m cap) now).1.1=300∧(emitS (emitS (wroteG i m cap) now).2 now).1.2≠0:=by
 have hc:SockB.clampM m=m:=by unfold SockB.clampM;(repeat' split)<;>omega
 have ht:=tso_300 hm
 obtain ⟨x,hxe⟩:∃ x:Sk,x=wroteG i m cap:=⟨_,rfl⟩
 rw [← hxe] at hx ⊢
 have e1:SockA.bW x.bf - SockA.bN x.bf=300:=by rw [hxe];rfl
 have e2:skFl x=0:=by rw [hxe];rfl
 have e3:x.md=BbrMm.mNew m:=by rw [hxe];show BbrMm.mNew (SockB.clampM m)=_;rw [hc]
 have e4:x.out=0:=by rw [hxe];rfl
 have e5:x.bd=([],0):=by rw [hxe];rfl
 have e7:skTso x=SockB.tsoF (BbrMm.mNew m).rate m:=by rw [hxe];show SockB.tsoF (BbrMm.mNew (SockB.clampM m)).rate (SockB.clampM m)=_;rw [hc]
 have e8:x.md.win=10 * BbrMm.mMss m:=by rw [e3]
 have hmm:=BbrMm.mss_r m
 have hl:(Board.lostF x.bd.1).2=false:=by rw [e5];rfl
 have hb:0 < SockB.belowF x.md.rate (skTso x) x.cap:=by
  unfold SockB.belowF SockB.longI
  rw [e7]
  split<;>split<;>omega
 have hmay:(mayS x).1=0:=by
  have a1:¬ ((Board.lostF x.bd.1).2=false∧SockA.bW x.bf - SockA.bN x.bf=0):=by rw [e1];omega
  have a2:¬ ¬ (skFl x < x.md.win∧x.out < SockB.belowF x.md.rate (skTso x) x.cap):=by rw [e2,e4,e8];exact fun c=>c ⟨by omega,hb⟩
  have a3:¬ ((Board.lostF x.bd.1).2=false∧(x.bd.1.length:Int) ≥ 4096):=by rw [e5];show ¬ (_∧(0:Int) ≥ 4096);omega
  unfold mayS
  rw [if_neg a1,if_neg a2,if_neg a3]
 have he:(emitS x now).1.2=0:=by unfold emitS;rw [if_neg (fun c=>c hmay)]
 have hw:=went_of hx hn he
 have hA:SockQ.gA (emitS x now).1.1=false:=by
  cases hg:SockQ.gA (emitS x now).1.1 with
  | false=>rfl
  | true =>
   have:=(hw.old hg).2.1
   rw [e5] at this
   have h2:=congrArg Prod.snd this
   cases h2
 obtain ⟨n1,n2,_,n4,n5⟩:=hw.new hA
 have hcut:SockO.cutN x=300:=by unfold SockO.cutN;rw [e1,e7];omega
 have f1:SockQ.gF (emitS x now).1.1=0:=by rw [n1,hxe];rfl
 have f2:SockQ.gN (emitS x now).1.1=300:=by rw [n4,hcut]
 refine ⟨he,f1,f2,emit_7 (may_7 ?_ ?_)⟩
 ·rw [n5,e5,f1,f2];rfl
 ·rw [n2,f2,hxe];rfl
theorem pump_once {i now:Int} {s:Pm} (n:Nat) (h1:(emitS s.v now).1.2=0) (h2:(emitS (emitS s.v now).2 now).1.2≠0):(pumpN i now (n+2) s).q=(enter i now s).1.q∧(pumpN i now (n+2) s).l=(enter i now s).1.l∧(pumpN i now (n+2) s).o=(enter i now s).1.o:=by
 show (if (emitS s.v now).1.2≠0 then _ else if (enter i now s).2=0 then pumpN i now (n+1) (enter i now s).1 else (enter i now s).1).q=_∧(if (emitS s.v now).1.2≠0 then _ else if (enter i now s).2=0 then pumpN i now (n+1) (enter i now s).1 else (enter i now s).1).l=_∧(if (emitS s.v now).1.2≠0 then _ else if (enter i now s).2=0 then pumpN i now (n+1) (enter i now s).1 else (enter i now s).1).o=_
 rw [if_neg (fun c=>c h1)]
 by_cases h0:(enter i now s).2=0
 ·rw [if_pos h0]
  have hv:(enter i now s).1.v=(emitS s.v now).2:=by
   unfold enter at h0 ⊢
   dsimp only at h0 ⊢
   split
   ·rfl
   ·rename_i c;rw [if_neg c] at h0;exact absurd h0 (by show ¬ (1:Int)=0;decide)
  have e:pumpN i now (n+1) (enter i now s).1={ (enter i now s).1 with v:=(emitS (enter i now s).1.v now).2 }:=by
   unfold pumpN
   rw [if_pos (by rw [hv];exact h2)]
  rw [e]
  exact ⟨rfl,rfl,rfl⟩
 ·rw [if_neg h0];exact ⟨rfl,rfl,rfl⟩
theorem enter_one {k now B n0 : Int} {i : Nat} (hi : i < 8) {s : Pm} (h : OkPm k i s) (hn : U now) (he : (emitS s.v now).1.2 = 0) (hb : Bk B (s.l i) n0) (hB : B < 1152921504606846975) :
    (enter i now s).1.o.dep = s.o.dep ∧ b0 ((enter i now s).1.l i) = b0 (s.l i) + 1 ∧
    ((sgO ((enter i now s).1.q.fl i) = sgO (s.q.fl i) ++ [drawn s.q (emitS s.v now).1.1 now] ∧ (enter i now s).1.o.dr = s.o.dr) ∨ (enter i now s).1.o.dr = s.o.dr ++ [(emitS s.v now).1.1]) := by
  have hw := went_of h.v hn he
  have hg1 : sK (emitS s.v now).1.1 = (i : Int) := hw.id.trans h.id
  have hg2 : 1 ≤ sLn (emitS s.v now).1.1 ∧ sLn (emitS s.v now).1.1 ≤ 65536 := hw.n
  obtain ⟨g, hg⟩ : ∃ g, g = (emitS s.v now).1.1 := ⟨_, rfl⟩
  rw [← hg] at hg1 hg2 ⊢
  have hin := bk_in hb (by omega)
  have een : enter i now s = if (enqF s.q g now).1.1 = 0 then (⟨(emitS s.v now).2, (enqF s.q g now).2, (noteL s.l i 0).2, s.o⟩, 0)
        else (⟨(doneS (emitS s.v now).2 g.2.2.1).2, (enqF s.q g now).2, (dropF (noteL s.l i 0).2 s.o g (enqF s.q g now).1.1).2, (dropF (noteL s.l i 0).2 s.o g (enqF s.q g now).1.1).1⟩, 1) := by
    rw [hg]; rfl
  have hgn : (sK g).toNat = i := by omega
  rcases enq_sg s.q g now (by omega) hg2 with ⟨h1, h2⟩ | ⟨h1, h2⟩
  · rw [if_pos (by rw [h1])] at een
    rw [een]
    refine ⟨rfl, ?_, .inl ⟨?_, rfl⟩⟩
    · show b0 ((noteL s.l i 0).2 i) = _
      rw [noteL_eq s.l hi, EgM.upL_same]
      exact hin.2.2.2
    · show sgO ((enqF s.q g now).2.fl i) = _
      rw [h2, hgn, if_pos rfl]
  · have hne : ¬ (enqF s.q g now).1.1 = 0 := by rcases h1 with h | h | h <;> rw [h] <;> (show ¬ (_ : Int) = 0; decide)
    have hfr : 1 ≤ (enqF s.q g now).1.1 ∧ (enqF s.q g now).1.1 ≤ 5 := by
      rcases h1 with h | h | h <;> rw [h]
      · show (1:Int) ≤ 2 ∧ (2:Int) ≤ 5; decide
      · show (1:Int) ≤ 3 ∧ (3:Int) ≤ 5; decide
      · show (1:Int) ≤ 4 ∧ (4:Int) ≤ 5; decide
    rw [if_neg hne] at een
    rw [een]
    refine ⟨rfl, ?_, .inr rfl⟩
    show b0 ((noteL (noteL s.l i 0).2 (sK g) (enqF s.q g now).1.1).2 i) = _
    rw [hg1, noteL_eq s.l hi, noteL_eq _ hi, EgM.upL_same, EgM.upL_same]
    rw [(bk_out hin.1 (by omega) (by have := hb.nn; omega) hfr).2.2.2.2.2]
    exact hin.2.2.2
theorem closed_so (v:Mc) {s:Int} (hs:0≤s∧s < 8):(doF v (dOne 9 s 0) []).2.so s.toNat=none:=by
 cases h:v.so s.toNat with
 | none=>rw [(no_eq v 0 (by omega)).2 hs h];exact h
 | some x=>rw [shut_eq v hs h 0];exact EgM.upL_same _ _ _
theorem reopens_tri (d:Cf) (s:Sl) (a:Int) (ps:List OpE) (hd:0≤cH d∧U (cR d)) (hp:∀ p∈ps,OkE p):Tri Tryz.prog N_cantertop_TopReopens [.agg (Ks.mk KC d),.lf (.sl s),.lf (.int .i64 a)] [.lf .bool] (opsE s ps) (fun r=>pur (r=true) emp) :=
 tri_0 (call_cantertop_TopReopens d s a) fun w0 S R h=>by
  unfold W_cantertop_TopReopens
  have hua:U (IntKind.u64.wrap a):=U_wrap a
  unfold U at hua
  obtain ⟨g,hg⟩:∃ g,g=IntKind.i64.wrap ((IntKind.u64.wrap a).tmod 8):=⟨_,rfl⟩
  have hg8:0≤g∧g < 8:=by
   rw [hg,Int.tmod_eq_emod_of_nonneg hua.1,wi (by omega) (by omega)];omega
  rw [← hg]
  obtain ⟨i,hi⟩:∃ i:Nat,g=(i:Int):=⟨g.toNat,by omega⟩
  have hin:g.toNat=i:=by omega
  have hi8:i < 8:=by omega
  have h:Own w0 S R w0 (opsE s ps):=h
  have hsl:=(h.rd (s:=s)).2
  rw [List.length_map] at hsl
  obtain ⟨cf,hcf⟩:∃ c,c=FqI.configF d:=⟨_,rfl⟩
  have hcm:may cf=true:=by rw [hcf];exact FqI.config_may d
  have hco:OkC cf:=by rw [hcf];exact FqI.config_ok hd.1 hd.2
  refine w_new h fun n1 w h=>w_ldAll (b:=n1) (x:=d) h rfl ?_
  have h:Own w0 S R w (emp^opsE s ps):=h.fin
  refine w_call (FqI.config_tri d) h fun r w h=>?_
  obtain ⟨hr,h⟩:=h.purP;rw [hr,← hcf]
  refine w_call (EgE.new_tri cf) h fun r w h=>?_
  obtain ⟨b,h⟩:=h.exP
  obtain ⟨hr,h⟩:=h.purP
  rw [if_pos hcm] at hr h
  rw [hr]
  refine w_call tawake_tri (h.le ((star_emp _).trans (star_comm _ _))) fun r w h=>?_
  obtain ⟨hr,h⟩:=h.purP;rw [hr]
  refine w_ite (fun c=>(by cases c)) fun _=>?_
  have h:Own w0 S R w (mach b (newM cf)^emp^opsE s ps):=h.fin
  refine w_callL (A:=emp) (Q:=opsE s ps) (deeds_tri s ps 50 (by decide) hp) h fun r4 w h=>?_
  have h:Own w0 S R w (mach b (newM cf)^arr r4 KD ((deedsF 50 ps).map Prod.fst)^opsE s ps):=h.fin
  have hr4:=(h.rd (s:=r4)).2
  rw [List.length_map,deedsF,List.length_map,List.length_take] at hr4
  refine w_loopE (fun (_:Int) (v:Mc)=>mach b v^arr r4 KD ((deedsF 50 ps).map Prod.fst)^opsE s ps) (fun (y:Int) v=>(0≤y∧y≤50)∧OkMc y v∧NoF v∧BkL (y * 2147483648) v.l v.q.fl) (fun (y:Int) _=>(50 - y).toNat) (newM cf) h ⟨by decide,new_ok hco,new_no _,new_bk _⟩ ?_
  rintro K (y:Int) v w ⟨hir,hv,hno,hbk⟩ h next
  refine w_ite (fun c=>?_) fun _=>?_
  ·have c:y < ((r4.len:Nat):Int):=of_decide_eq_true c
   have hi:y.toNat < ps.length∧y.toNat < (50:Int).toNat:=by
    have:(50:Int).toNat=50:=rfl
    omega
   have hwi:IntKind.i64.wrap (y+1)=y+1:=wi (by omega) (by omega)
   obtain ⟨p,hpi⟩:∃ p,ps[y.toNat]?=some p:=⟨_,List.getElem?_eq_getElem hi.1⟩
   have hdi:=deedsF_at hpi hi.2
   have hdm:((deedsF 50 ps).map Prod.fst)[y.toNat]?=some (deedF p.1):=by rw [List.getElem?_map,hdi];rfl
   have hlt:y.toNat < ((deedsF 50 ps).map Prod.fst).length:=(List.getElem?_eq_some_iff.1 hdm).1
   have hO:=hp p (List.mem_of_getElem? hpi)
   have hD:=deedF_ok hO
   refine w_idx (s:=r4) h hir.1 hlt (w_ldE h r4 y.toNat hdm rfl ?_)
   refine w_deed h hv (by omega) hp hpi fun r w _ h=>?_
   rw [hwi]
   exact next (y+1) (doF v (deedF p.1) (p.2.take 6)).2 w ⟨⟨by omega,by omega⟩,do_ok hv (by omega) hD _,do_no hv (by omega) hno _ _,(do_bk hv (by omega) hbk (by omega) _ _).le (by omega)⟩ h.fin (by show (50 - (y+1)).toNat < (50 - y).toNat;omega)
  ·clear next
   have h:Own w0 S R w (mach b v^emp):=h.fin
   have hB:y * 2147483648≤107374182400:=by omega
   have hbk:=hbk.le hB
   have k1:=do_ok hv (by omega) (dOne_ok 9 g 0 (by decide)) []
   have m1:=do_no hv (by omega) hno (dOne 9 g 0) []
   have q1:=do_bk hv (by omega) hbk (by decide) (dOne 9 g 0) []
   have z1:=closed_so v hg8
   refine w_do0 (d:=dOne 9 g 0) h hv (by omega) (dOne_ok 9 g 0 (by decide)) rfl fun r w _ h=>?_
   obtain ⟨v1,hv1⟩:∃ v',v'=(doF v (dOne 9 g 0) []).2:=⟨_,rfl⟩
   rw [← hv1] at h k1 m1 q1 z1
   rw [hin] at z1
   have f1:=m1 i hi8 z1
   have h:Own w0 S R w (mach b v1^emp):=h.fin
   refine w_call (mcount_tri b v1 g) h fun r w h=>?_
   obtain ⟨hr,h⟩:=h.purP;rw [hr]
   obtain ⟨c1,hc1⟩:∃ c:Ct,c=countL v1.l g:=⟨_,rfl⟩
   have hc1':c1=(g,(v1.l i).2):=by rw [hc1];unfold countL;rw [if_neg (by omega),hin]
   rw [← hc1]
   refine w_new h fun n14 w h=>w_setTo h n14 (Ks.mk KCt c1) rfl rfl rfl fun w h=>?_
   have hop:=open_eq v1 hg8 (by rw [hin];exact z1)
   have k2:=do_ok k1 (by omega) (dOne_ok 1 g 0 (by decide)) []
   have q2:=do_bk k1 (by omega) q1 (by decide) (dOne 1 g 0) []
   have h:Own w0 S R w (mach b v1^blk n14 (Ks.mk KCt c1)^emp):=h.fin
   refine w_do0 (d:=dOne 1 g 0) h k1 (by omega) (dOne_ok 1 g 0 (by decide)) rfl fun r w hr15 h=>?_
   obtain ⟨r15,e15⟩:=r
   dsimp only at hr15
   obtain ⟨v2,hv2⟩:∃ v',v'=(doF v1 (dOne 1 g 0) []).2:=⟨_,rfl⟩
   rw [← hv2] at h k2 q2
   rw [hop] at hr15 hv2
   rw [hin] at hv2
   have hmss:100≤cMss v1.c∧cMss v1.c≤9000:=k1.c.mss
   have x2:v2.so i=some (newS g (cMss v1.c) (cCap v1.c)):=by rw [hv2];exact EgM.upL_same _ _ _
   have f2:v2.q.fl i=none:=by rw [hv2];exact f1
   have l2:v2.l=v1.l:=by rw [hv2]
   have o2:openS v2 g=some (newS g (cMss v1.c) (cCap v1.c)):=by unfold openS;rw [if_pos hg8,hin];exact x2
   have h:Own w0 S R w (mach b v2^blk n14 (Ks.mk KCt c1)^emp):=h.fin
   refine w_new h fun n16 w h=>w_setAll h (by rfl) fun w h=>?_
   refine w_call (state_tri b _ v2 k2 g) h fun r w h=>?_
   obtain ⟨hr,h⟩:=h.purP;rw [hr,o2]
   obtain ⟨A,hA⟩:∃ A,A=stO (some (newS g (cMss v1.c) (cCap v1.c))):=⟨_,rfl⟩
   have hA0:A.1=0∧A.2.1=0∧A.2.2.1=0:=by rw [hA];exact ⟨rfl,rfl,rfl⟩
   rw [← hA]
   refine w_new h fun n18 w h=>w_setTo h n18 (Ks.mk K_u3i A) rfl rfl rfl fun w h=>?_
   refine w_call (model_tri b v2 g) h fun r w h=>?_
   obtain ⟨hr,h⟩:=h.purP;rw [hr,o2]
   obtain ⟨M,hM⟩:∃ A,A=mdO (some (newS g (cMss v1.c) (cCap v1.c))):=⟨_,rfl⟩
   have hM0:M.1=0∧M.2.2.2.2.1=0:=by rw [hM];exact ⟨rfl,rfl⟩
   rw [← hM]
   refine w_new h fun n20 w h=>w_setTo h n20 (Ks.mk K_i2u6b2 M) rfl rfl rfl fun w h=>?_
   refine w_call (mflow_tri b v2 k2.q g) h fun r w h=>?_
   obtain ⟨a21,h⟩:=h.exP
   obtain ⟨hr,h⟩:=h.purP
   have hF:FqE.seenF v2.q g a21=(FqE.noF,false):=by
    unfold FqE.seenF FqE.hasF
    rw [if_neg]
    rw [hin,f2];simp
   rw [hr,hF]
   refine w_new h fun n22 w h=>w_setAll h (by rfl) fun w h=>?_
   dsimp only
   have h:Own w0 S R w (blk n18 (Ks.mk K_u3i A)^blk n20 (Ks.mk K_i2u6b2 M)^mach b v2^blk n14 (Ks.mk KCt c1)^emp):=h.fin
   refine w_join h (fun _=>mach b v2^blk n14 (Ks.mk KCt c1)^emp) (fun z:Bool=>z=false) (fun z w hz h=>?_) ?_
   rotate_left
   ·rw [hr15]
    refine w_ite (fun c=>(by cases c)) fun _=>w_ld (x:=A.1) h rfl (w_ite (fun c=>(by rw [hA0.1] at c;cases c)) fun _=>?_)
    refine w_ld (x:=A.2.1) h rfl (w_ite (fun c=>(by rw [hA0.2.1] at c;cases c)) fun _=>?_)
    refine w_ld (x:=A.2.2.1) h rfl (w_ite (fun c=>(by rw [hA0.2.2] at c;cases c)) fun _=>?_)
    refine w_ld (x:=M.1) h rfl (w_ite (fun c=>(by rw [hM0.1] at c;cases c)) fun _=>?_)
    refine w_ld (x:=M.2.2.2.2.1) h rfl (w_ite (fun c=>(by rw [hM0.2] at c;cases c)) fun _=>?_)
    refine w_ld (x:=cWt c1) h rfl ⟨?_,h.fin⟩
    have:cWt c1=0:=by
     have e:=(q1 i hi8).q
     rw [f1] at e
     rw [hc1'];exact e
    rw [this];rfl
   rw [hz]
   refine w_ite (fun c=>(by cases c)) fun _=>?_
   have hse:=send_eq v2 hg8 (x:=newS g (cMss v1.c) (cCap v1.c)) (by rw [hin];exact x2) (n:=300) (by rw [wroteG_eq])
   rw [wroteG_eq,hin] at hse
   have k3:=do_ok k2 (by omega) (dOne_ok 2 g 300 (by decide)) []
   have told:=EgF.told_ok (k2.so _ _ x2).1 (by omega) k2.un (dOne 2 g 300) []
   have et:(toldF (newS g (cMss v1.c) (cCap v1.c)) v2.now (dOne 2 g 300) []).2=wroteG g (cMss v1.c) (cCap v1.c):=rfl
   rw [et] at told
   have hpm:OkPm (y+1+1+1) (i:Int) ⟨wroteG g (cMss v1.c) (cCap v1.c),v2.q,v2.l,ou0⟩:=⟨told.1,told.2.trans hi,k2.q⟩
   obtain ⟨g1,g2,g3,g4⟩:=firstG hmss told.1 (now:=v2.now) k2.un
   have hon:=enter_one hi8 hpm k2.un g1 (q2 i hi8) (by decide)
   have hpo:=pump_once (i:=(i:Int)) (now:=v2.now) (s:=⟨wroteG g (cMss v1.c) (cCap v1.c),v2.q,v2.l,ou0⟩) 299 g1 g4
   have hfr:fresh (wroteG g (cMss v1.c) (cCap v1.c))+1=299+2:=rfl
   refine w_do0 (d:=dOne 2 g 300) h k2 (by omega) (dOne_ok 2 g 300 (by decide)) rfl fun r w hr31 h=>?_
   obtain ⟨⟨t1,t2,t3,t4⟩,e31⟩:=r
   dsimp only at hr31 h
   obtain ⟨v3,hv3⟩:∃ v',v'=(doF v2 (dOne 2 g 300) []).2:=⟨_,rfl⟩
   rw [← hv3] at h k3
   rw [hse] at hr31 h hv3
   obtain ⟨oo,hoo⟩:∃ o,o=(pumpM v2 i (wroteG g (cMss v1.c) (cCap v1.c)) ou0).1:=⟨_,rfl⟩
   rw [← hoo] at h
   have p1:oo=(enter (i:Int) v2.now ⟨wroteG g (cMss v1.c) (cCap v1.c),v2.q,v2.l,ou0⟩).1.o:=by
    rw [hoo];unfold pumpM pumpF;dsimp only;rw [hfr];exact hpo.2.2
   have p2:v3.q=(enter (i:Int) v2.now ⟨wroteG g (cMss v1.c) (cCap v1.c),v2.q,v2.l,ou0⟩).1.q:=by
    rw [hv3];unfold pumpM pumpF;dsimp only;rw [hfr];exact hpo.1
   have p3:v3.l=(enter (i:Int) v2.now ⟨wroteG g (cMss v1.c) (cCap v1.c),v2.q,v2.l,ou0⟩).1.l:=by
    rw [hv3];unfold pumpM pumpF;dsimp only;rw [hfr];exact hpo.2.1
   rw [← p1,← p2,← p3] at hon
   obtain ⟨u1,u2,u3⟩:=hon
   have u1:oo.dep=[]:=u1
   obtain ⟨_,h⟩:=h.outR (t1,t2,t3,t4)
   dsimp only at h
   rw [u1] at h
   have lt2:=(h.rd (s:=t2)).2
   have h:Own w0 S R w (arr t1 KS []^mach b v3^blk n14 (Ks.mk KCt c1)^emp):=h.fin
   refine w_new h fun n32 w h=>w_setTo h n32 (Ks.mk KOu (t1,t2,t3,t4)) rfl rfl rfl fun w h=>?_
   refine w_call (mcount_tri b v3 g) h fun r w h=>?_
   obtain ⟨hr,h⟩:=h.purP;rw [hr]
   obtain ⟨c3,hc3⟩:∃ c:Ct,c=countL v3.l g:=⟨_,rfl⟩
   have hc3':c3=(g,(v3.l i).2):=by rw [hc3];unfold countL;rw [if_neg (by omega),hin]
   rw [← hc3]
   refine w_new h fun n34 w h=>w_setTo h n34 (Ks.mk KCt c3) rfl rfl rfl fun w h=>?_
   refine w_call (mflow_tri b v3 k3.q g) h fun r w h=>?_
   obtain ⟨a35,h⟩:=h.exP
   obtain ⟨hr,h⟩:=h.purP
   rw [hr]
   obtain ⟨f,hf⟩:∃ f,f=FqE.seenF v3.q g a35:=⟨_,rfl⟩
   rw [← hf]
   refine w_new h fun n36 w h=>w_setTo h n36 (Ks.mk FqE.KF f.1) rfl rfl rfl fun w h=>?_
   dsimp only
   rw [hr31]
   refine w_ite (fun _=>?_) fun c=>(by cases c)
   refine ⟨by decide,w_ld (x:=b0 c3) h rfl ⟨by decide,w_ld (x:=b0 c1) h rfl ?_⟩⟩
   have hb:b0 c3=b0 c1+1:=by
    rw [hc3',hc1']
    show b0 (v3.l i)=b0 (v1.l i)+1
    rw [← l2];exact u2
   have hb1:0≤b0 c1∧b0 c1≤1152921504606846975:=by
    have e:=q1 i hi8
    have e1:=e.s
    have e2:=e.b
    have:=e.p1;have:=e.p2;have:=e.p3;have:=e.p4;have:=e.p5;have:=e.nn
    rw [hc1']
    show 0≤b0 (v1.l i)∧b0 (v1.l i)≤_
    omega
   have hw1:IntKind.i64.wrap (b0 c1+1)=b0 c1+1:=wi (by omega) (by omega)
   refine w_ite (fun _=>?_) fun c=>(by rw [hw1,hb] at c;simp at c)
   have fin:∀ {w:World} {G:SP},Own w0 S R w (arr t1 KS []^G)→call Tryz.prog N_canterhelp_Plain_apiSeg [.lf (.sl t1),.lf (.sl ⟨none,0,0⟩)] [.lf .bool] (fun r50=>fun w=>Own w0 S R w (pur (r50=true) emp)) w:=fun {w G} h=>by
    refine w_callL (A:=emp) (Q:=rarr t1 KS []^rarr ⟨none,0,0⟩ KS []) (Segs.seg_plain_tri t1 ⟨none,0,0⟩ [] [] (by decide)) (h.le ((star_emp _).trans (star_comm _ _))) fun r w h=>?_
    obtain ⟨hr,h⟩:=h.purP
    exact Own.retP (hr.2 rfl) h.emp'
   refine w_ld (x:=t2) h rfl (w_ite (fun c=>?_) fun c=>?_)
   ·refine w_ld (x:=t1) h rfl ?_
    exact fin (show Own w0 S R w (arr t1 KS []^emp) from h.fin)
   ·rcases u3 with ⟨u3,u4⟩ | u4
    rotate_left
    ·exfalso
     rw [lt2,u4] at c
     cases c
    have hsg:sgO (v3.q.fl i)=[drawn v2.q (emitS (wroteG g (cMss v1.c) (cCap v1.c)) v2.now).1.1 v2.now]:=by
     rw [u3];show sgO (v2.q.fl i)++_=_;rw [f2];rfl
    obtain ⟨dr,hdr⟩:∃ x,x=drawn v2.q (emitS (wroteG g (cMss v1.c) (cCap v1.c)) v2.now).1.1 v2.now:=⟨_,rfl⟩
    have hd1:sFr dr=0:=by rw [hdr];exact g2
    have hd2:sLn dr=300:=by rw [hdr];exact g3
    rw [← hdr] at hsg
    obtain ⟨fl,hfl⟩:∃ fl,v3.q.fl i=some fl:=by
     cases hq:v3.q.fl i with
     | none=>rw [hq] at hsg;cases hsg
     | some fl=>exact ⟨fl,rfl⟩
    have hhas:FqE.hasF v3.q g=true:=by
     unfold FqE.hasF
     rw [hin,hfl,decide_eq_true (by omega:0≤g∧g≤7)];rfl
    have hfs:f.1.2.2.2.2.2=a35:=by
     rw [hf];unfold FqE.seenF;rw [if_pos hhas,hin,hfl]
    have hfsg:FqE.sgF v3.q g=[dr]:=by
     unfold FqE.sgF;rw [if_pos hhas,hin,hfl]
     rw [hfl] at hsg;exact hsg
    rw [hfsg] at h
    have h:Own w0 S R w (arr a35 KS [dr]^blk n36 (Ks.mk FqE.KF f.1)^blk n32 (Ks.mk KOu (t1,t2,t3,t4))^arr t1 KS []^emp):=h.fin
    have la:=(h.rd (s:=a35)).2
    refine w_ld (x:=f.1.2.2.2.2.2) h rfl ?_
    rw [hfs]
    refine w_ite (fun _=>?_) fun c=>(by rw [la] at c;cases c)
    refine w_ld (x:=f.1.2.2.2.2.2) h rfl ?_
    rw [hfs]
    refine w_idx (s:=a35) h (by decide) (by show 0 < 1;decide) (w_ldA h a35 0 1 dr rfl rfl (by decide) (x:=sFr dr) rfl (w_ite (fun _=>?_) fun c=>(by rw [hd1] at c;cases c)))
    refine w_ld (x:=f.1.2.2.2.2.2) h rfl ?_
    rw [hfs]
    refine w_idx (s:=a35) h (by decide) (by show 0 < 1;decide) (w_ldA h a35 0 2 dr rfl rfl (by decide) (x:=sLn dr) rfl (w_ite (fun _=>?_) fun c=>(by rw [hd2] at c;cases c)))
    refine w_ld (x:=t1) h rfl ?_
    exact fin (show Own w0 S R w (arr t1 KS []^emp) from h.fin)
end EgS

end Go.X
