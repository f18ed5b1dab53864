/- Contracts and plain facts: BbrZ RsA RsB RsC RsD. -/
import Derived.Test.YtaimlgfepkopkaaGreatB9
set_option linter.all false
namespace Go.X
open Go.Proofs
namespace C6
open bB bi _root_.Go.X.Target fZ eH NT xk
abbrev wM(v:Rm)(m:Md):Rm:={v with m:=m}
theorem BW{m:Md}(h:100≤m.bn∧m.bn≤9000):IntKind.u64.wrap (4*m.bn)=jc m:=wu (by omega) (by omega)
theorem N8(b:Pb)(ao bG fl floor:Int)(st:Bool)(h:(bU b ao bG st fl floor).1.1=true):(bU b ao bG st fl floor).1.2=false:=by
 unfold bU at*
 split
 ·rfl
 ·rename_i h1;rw[ay h1]at h;split at h<;>cases h
def HT(m:Md)(s:Sm)(o:Bool):Md:=lM (sC (qJ (jW (gW m s) o s)) s) s o
theorem PU(b nw n1:Nat)(v:Rm)(hv:fP v.m)(hR:Rel v)(s:Sm)(hs:oX s){w0 w:World}{S R:Nat→Prop}{K:WP}(h:au w0 S R w (ah n1 (Ks.mk aO s)^ah b (ad.cN nw v)^ah nw (ad.dH v.m.w)))(k:∀w,au w0 S R w (ah n1 (Ks.mk aO s)^ah b (ad.cN nw ((wM v (gW v.m s))))^ah nw (ad.dH ((wM v (gW v.m s)).m.w)))→K w):
  join [] (λJ4=>join [.bool] (λJ6=>
 deref (some ⟨b,0⟩) λq8=>
 ld [.int .i64] ⟨q8.b,q8.o+23⟩ λ(x9:Int)=>
 aq (x9==(2:Int)) (
 deref (some ⟨b,0⟩) λq10=>
 ld [.bool] ⟨q10.b,q10.o+15⟩ λ(x11:Bool)=>
 J6 (!x11))<|
 J6 false) λ(y7:Bool)=>
 aq y7 (
 bF<|
 deref (some ⟨b,0⟩) λq12=>
 ld [.int .u64] ⟨n1,0⟩ λ(x13:Int)=>
 ld [.int .u64] ⟨n1,6⟩ λ(x14:Int)=>
 ld [.int .u64] ⟨n1,7⟩ λ(x15:Int)=>
 call Tryz.prog fO [.lf (.ptr (some ⟨b,0⟩))] [.lf (.int .u64)] λ(r16:Int)=>
 co ⟨n1,7⟩ (Ks.mk [.int .u64] x15)<|
 co ⟨n1,6⟩ (Ks.mk [.int .u64] x14)<|
 co ⟨n1,0⟩ (Ks.mk [.int .u64] x13)<|
 call Tryz.prog oi [.lf (.int .u64 r16),.lf (.int .u64 v.m.b.dg),.lf (.int .u64 (320:Int))] [.lf (.int .u64)] λ(r17:Int)=>
 co ⟨n1,7⟩ (Ks.mk [.int .u64] x15)<|
 co ⟨n1,6⟩ (Ks.mk [.int .u64] x14)<|
 co ⟨n1,0⟩ (Ks.mk [.int .u64] x13)<|
 call Tryz.prog fO [.lf (.ptr (some ⟨b,0⟩))] [.lf (.int .u64)] λ(r18:Int)=>
 co ⟨n1,7⟩ (Ks.mk [.int .u64] x15)<|
 co ⟨n1,6⟩ (Ks.mk [.int .u64] x14)<|
 co ⟨n1,0⟩ (Ks.mk [.int .u64] x13)<|
 call Tryz.prog oi [.lf (.int .u64 r18),.lf (.int .u64 v.m.b.dg),.lf (.int .u64 (256:Int))] [.lf (.int .u64)] λ(r19:Int)=>
 co ⟨n1,7⟩ (Ks.mk [.int .u64] x15)<|
 co ⟨n1,6⟩ (Ks.mk [.int .u64] x14)<|
 co ⟨n1,0⟩ (Ks.mk [.int .u64] x13)<|
 call Tryz.prog nA [.lf (.ptr (some ⟨q12.b,q12.o+7⟩)),.lf (.int .u64 x13),.lf (.int .u64 v.m.b.dg),.lf (.int .u64 x14),.lf (.int .u64 x15),.lf (.int .u64 r17),.lf (.int .u64 r19)] [.lf .bool] λ(r20:Bool)=>
 J4 ())<|
 J4 ()) (λ_=>K) w:=by
 refine aK h (λ_=>ah n1 (Ks.mk aO s)^ah b (ad.cN nw ((wM v (gW v.m s))))^ah nw (ad.dH ((wM v (gW v.m s)).m.w))) (λ_=>True) (λ_ w _ h=>k w h) ?_;refine aK h (λ_=>ah n1 (Ks.mk aO s)^ah b (ad.cN nw v)^ah nw (ad.dH v.m.w)) (λy:Bool=>y=decide (v.m.mode=2∧v.m.q.iO=false)) (λ(y:Bool) w hy h=>?_) ?_
 ·rw[hy];refine ae (λc=>?_) λc=>?_
  ·have c:v.m.mode=2∧v.m.q.iO=false:=bJ c;have e:gW v.m s={v.m with c:=cU v.m.c (iw s) v.m.b.dg (gr s) (kd s) (rD v.m 320) (rD v.m 256)}:=(by unfold gW;rw[aC c]);rw[e];repeat' (first
    |(refine aH h λw h=>?_)
    |(refine ac ?_)
    |(refine ar h rfl ?_)
    |(refine aj h rfl ?_)
    |(refine aJ h ?_)
    |(refine aI h rfl ?_)
    |(refine aw h (by rfl) λw h=>?_)
    |(refine aA h λn w h=>?_)
    |(refine aN h λw h=>?_)
    |(refine aU h rfl λw h=>?_;dsimp only[dj,over]at h)
    |(refine af (sG b nw v) h λr w h=>?_;obtain⟨hr,h⟩:=h.aB;(try dsimp only at hr h);try rw[hr])
    |(refine af (vo _ _ _ hv.bw hv.b.dg (aX 320)) h λr w h=>?_;obtain⟨hr,h⟩:=h.aB;(try dsimp only at hr h);try rw[hr])
    |(refine af (vo _ _ _ hv.bw hv.b.dg (aX 256)) h λr w h=>?_;obtain⟨hr,h⟩:=h.aB;(try dsimp only at hr h);try rw[hr]))
   refine af (Jq b nw v hv.c (iw s) v.m.b.dg (gr s) (kd s) (rD v.m 320) (rD v.m 256) hs.ao) h λr w h=>?_;exact⟨trivial,h.aG⟩
  ·have c:¬(v.m.mode=2∧v.m.q.iO=false):=bQ c;have e:gW v.m s=v.m:=(by unfold gW;rw[ay c]);rw[e];exact⟨trivial,h⟩
 ·repeat' (first
   |(refine aH h λw h=>?_)
   |(refine ac ?_)
   |(refine ar h rfl ?_)
   |(refine aj h rfl ?_)
   |(refine aJ h ?_)
   |(refine aI h rfl ?_)
   |(refine aw h (by rfl) λw h=>?_)
   |(refine aA h λn w h=>?_)
   |(refine aN h λw h=>?_)
   |(refine aU h rfl λw h=>?_;dsimp only[dj,over]at h)
   |(refine ae (λc=>?_) λc=>?_))
  ·have c:v.m.mode=2:=bV;exact⟨by cases hh:v.m.q.iO<;>simp[c],h⟩
  ·have c:¬v.m.mode=2:=bV;exact⟨by simp[c],h⟩
theorem QR(b nw n1:Nat)(v:Rm)(s:Sm){w0 w:World}{S R:Nat→Prop}{K:WP}(h:au w0 S R w (ah n1 (Ks.mk aO s)^ah b (ad.cN nw v)^ah nw (ad.dH v.m.w)))(k:∀w,au w0 S R w (ah n1 (Ks.mk aO s)^ah b (ad.cN nw ((wM v (eG v.m (iw s)))))^ah nw (ad.dH ((wM v (eG v.m (iw s))).m.w)))→K w):
  (deref (some ⟨b,0⟩) λq46=>
 st ⟨q46.b,q46.o+23⟩ [.int .i64 (2:Int)]<|
 bF<|
 deref (some ⟨b,0⟩) λq47=>
 ld [.int .u64] ⟨n1,0⟩ λ(x48:Int)=>
 call Tryz.prog nY [.lf (.ptr (some ⟨q47.b,q47.o+7⟩)),.lf (.int .u64 x48),.lf (.int .i64 (2:Int))] [] λ(r49:Unit)=>
 K) w:=by
 repeat' (first
  |(refine aH h λw h=>?_)
  |(refine ac ?_)
  |(refine ar h rfl ?_)
  |(refine aj h rfl ?_)
  |(refine aJ h ?_)
  |(refine aI h rfl ?_)
  |(refine aw h (by rfl) λw h=>?_)
  |(refine aA h λn w h=>?_)
  |(refine aN h λw h=>?_)
  |(refine aU h rfl λw h=>?_;dsimp only[dj,over]at h))
 have h:=(h.du (b:=b) (L':=(ad.cN nw ((wM v {v.m with mode:=2})))) (by simp));have h:au _ _ _ _ (ah n1 (Ks.mk aO s)^ah b (ad.cN nw ((wM v {v.m with mode:=2})))^ah nw (ad.dH ((wM v {v.m with mode:=2}).m.w))):=h.aG;refine af (Ev b nw (wM v {v.m with mode:=2}) (iw s) 2 (by omega)) h λr w h=>?_;exact k w h.aG
theorem GL(b nw:Nat)(v:Rm)(hv:fP v.m)(hR:Rel v)(o:Bool)(s:Sm)(hs:oX s):bm (Sy (some ⟨b,0⟩) s o) (ah b (ad.cN nw v)^ah nw (ad.dH v.m.w))
  (λ_=>wZ (λu:Rm=>u.m=HT v.m s o∧Rel u∧u.g=v.g) (λu=>ah b (ad.cN nw u)^ah nw (ad.dH u.m.w))):=
 br λw0 S R h=>by
  refine aA h λn1 w h=>?_;refine ac (aj h rfl ?_);have h:au w0 S R w (ah n1 (Ks.mk aO s)^ah b (ad.cN nw v)^ah nw (ad.dH v.m.w)):=h;refine PU b nw n1 v hv hR s hs h λw h=>?_;have hdef:HT v.m s o=lM (sC (qJ (jW (gW v.m s) o s)) s) s o:=rfl;rw[hdef];have hb1:(gW v.m s).b=v.m.b:=by unfold gW;split<;>rfl
  have ok1:=hv.Vy hs;have hbest:v.m.b.dg=(gW v.m s).b.dg:=by rw[hb1]
  have hR1:Rel (wM v (gW v.m s)):=λhh=>by
   have:=hR (by rw[←hb1];exact hh);show v.set=decide ((gW v.m s).b.jN≠0)∧(v.set=true→v.oR=(gW v.m s).b.jN);rw[hb1];exact this
  try dsimp only
  rw[hbest];have e0:wM v (gW v.m s)=wM v (gW v.m s):=rfl;generalize hm1:gW v.m s=m1 at*
  clear hm1 hdef e0;repeat' (first
   |(refine aH h λw h=>?_)
   |(refine ac ?_)
   |(refine ar h rfl ?_)
   |(refine aj h rfl ?_)
   |(refine aJ h ?_)
   |(refine aI h rfl ?_)
   |(refine aw h (by rfl) λw h=>?_)
   |(refine aA h λn w h=>?_)
   |(refine aN h λw h=>?_)
   |(refine aU h rfl λw h=>?_;dsimp only[dj,over]at h))
  refine⟨by decide,aj h rfl ?_⟩;refine af (JD b nw (wM v m1) ok1.p o (qN s) m1.w.v0) h λr w h=>?_;have ok2:fP (jW m1 o s):=ok1.pipe;have hR2:Rel (wM v (jW m1 o s)):=hR1;have hbest:m1.b.dg=(jW m1 o s).b.dg:=rfl;rw[hbest];have h:au w0 S R w (ah n1 (Ks.mk aO s)^ah b (ad.cN nw ((wM v (jW m1 o s))))^ah nw (ad.dH ((wM v (jW m1 o s)).m.w))):=h.aG;generalize jW m1 o s=m2 at*
  clear hR1 ok1 hbest;have b3:(qJ m2).b=m2.b:=by unfold qJ;split<;>rfl
  have ok3:=ok2.m1;refine aK h (λ_=>ah n1 (Ks.mk aO s)^ah b (ad.cN nw ((wM v (qJ m2))))^ah nw (ad.dH ((wM v (qJ m2)).m.w))) (λ_=>True) (λ_ w _ h=>?_) ?_
  ·have hR3:Rel (wM v (qJ m2)):=λhh=>by
    have:=hR2 (by rw[←b3];exact hh);show v.set=decide ((qJ m2).b.jN≠0)∧(v.set=true→v.oR=(qJ m2).b.jN);rw[b3];exact this
   rw[←b3];generalize qJ m2=m3 at*
   clear b3 ok2 hR2;have ok4:=ok3.m2 hs;have b4:(sC m3 s).b=m3.b:=by unfold sC;split<;>rfl
   refine aK h (λ_=>ah n1 (Ks.mk aO s)^ah b (ad.cN nw ((wM v (sC m3 s))))^ah nw (ad.dH ((wM v (sC m3 s)).m.w))) (λ_=>True) (λ_ w _ h=>?_) ?_
   ·have hR4:Rel (wM v (sC m3 s)):=λhh=>by
     have:=hR3 (by rw[←b4];exact hh);show v.set=decide ((sC m3 s).b.jN≠0)∧(v.set=true→v.oR=(sC m3 s).b.jN);rw[b4];exact this
    generalize sC m3 s=m4 at*
    clear b4 ok3 hR3;repeat' (first
     |(refine aH h λw h=>?_)
     |(refine ac ?_)
     |(refine ar h rfl ?_)
     |(refine aj h rfl ?_)
     |(refine aJ h ?_)
     |(refine aI h rfl ?_)
     |(refine aw h (by rfl) λw h=>?_)
     |(refine aA h λn w h=>?_)
     |(refine aN h λw h=>?_)
     |(refine aU h rfl λw h=>?_;dsimp only[dj,over]at h))
    have ef:=BW (m:=m4) ok4.bn;have ef:IntKind.u64.wrap ((4:Int)*(wM v m4).m.bn)=jc m4:=ef;rw[ef];refine af (GO b nw (wM v m4) ok4.b hR4 (iw s) (Nh s) (kd s) (jc m4) o hs.ao hs.bG) h λr w h=>?_;obtain⟨u,⟨hr,hu,hRu,hg⟩,h⟩:=h.t_;have hx:=N8 m4.b (iw s) (Nh s) (kd s) (jc m4) o;have hu:u.m={m4 with b:=(Ab m4 s o).2}:=hu;have hr:r=(Ab m4 s o).1:=hr;have hx:(Ab m4 s o).1.1=true→(Ab m4 s o).1.2=false:=hx;have hdef:lM m4 s o=gY u.m r (iw s):=(by rw[hu,hr];rfl);rw[hdef];rw[←hr]at hx;have hw:u.m.w=m4.w:=(by rw[hu]);have h:au w0 S R w (ah b (ad.cN nw u)^ah n1 (Ks.mk aO s)^ah nw (ad.dH m4.w)):=h.aG;rw[←hw]at h;have h:au w0 S R w (ah n1 (Ks.mk aO s)^ah b (ad.cN nw u)^ah nw (ad.dH u.m.w)):=h.aG;clear hu hr hdef hR4 hw;rw[←hg];clear hg;refine aK h (λ_=>ah n1 (Ks.mk aO s)^ah b (ad.cN nw ((if r.1=true then wM u {u.m with gq:=if u.m.cv>u.m.gq then u.m.cv else u.m.gq,mode:=3}else u)))^ah nw (ad.dH ((if r.1=true then wM u {u.m with gq:=if u.m.cv>u.m.gq then u.m.cv else u.m.gq,mode:=3}else u).m.w))) (λ_=>True) (λ_ w _ h=>?_) ?_
    ·unfold gY;by_cases hr1:r.1=true
     ·have hx:=hx hr1;rw[hx];refine ae (λc=>(by cases c)) λ_=>?_;rw[aC hr1];rw[aC hr1]at h;have h:au w0 S R w (ah n1 (Ks.mk aO s)^ah b (ad.cN nw ((wM u {u.m with gq:=if u.m.cv>u.m.gq then u.m.cv else u.m.gq,mode:=3})))^ah nw (ad.dH ((wM u {u.m with gq:=if u.m.cv>u.m.gq then u.m.cv else u.m.gq,mode:=3}).m.w))):=h;exact(h.qH (wM u {u.m with gq:=if u.m.cv>u.m.gq then u.m.cv else u.m.gq,mode:=3}) ⟨rfl,hRu,rfl⟩).bk
     ·rw[ay hr1];rw[ay hr1]at h;have h:au w0 S R w (ah n1 (Ks.mk aO s)^ah b (ad.cN nw u)^ah nw (ad.dH u.m.w)):=h;refine ae (λc=>?_) λc=>?_
      ·have c:r.2=true:=c;rw[aC c];repeat' (first
        |(refine aH h λw h=>?_)
        |(refine ac ?_)
        |(refine ar h rfl ?_)
        |(refine aj h rfl ?_)
        |(refine aJ h ?_)
        |(refine aI h rfl ?_)
        |(refine aw h (by rfl) λw h=>?_)
        |(refine aA h λn w h=>?_)
        |(refine aN h λw h=>?_)
        |(refine aU h rfl λw h=>?_;dsimp only[dj,over]at h))
       have h:=(h.du (b:=b) (L':=(ad.cN nw ((wM u {fS u.m with mode:=0})))) (by simp));have h:au w0 S R _ (ah n1 (Ks.mk aO s)^ah b (ad.cN nw ((wM u {fS u.m with mode:=0})))^ah nw (ad.dH ((wM u {fS u.m with mode:=0}).m.w))):=h.aG;have hR5:Rel (wM u {fS u.m with mode:=0}):=hRu;refine ae (λc=>?_) λc=>?_
       ·have c:u.m.p.full=true:=c;rw[aC c];refine QR b nw n1 (wM u {fS u.m with mode:=0}) s h λw h=>?_;exact(h.qH (wM u (eG {fS u.m with mode:=0} (iw s))) ⟨rfl,hRu,rfl⟩).bk
       ·have c:u.m.p.full=false:=c;rw[ay (by rw[c];simp)];exact(h.qH (wM u {fS u.m with mode:=0}) ⟨rfl,hRu,rfl⟩).bk
      ·have c:r.2=false:=c;rw[ay (by rw[c];simp)];exact(h.qH u ⟨rfl,hRu,rfl⟩).bk
    ·refine ae (λc=>?_) λc=>?_
     ·have c:r.1=true:=c;rw[aC c];repeat' (first
       |(refine aH h λw h=>?_)
       |(refine ac ?_)
       |(refine ar h rfl ?_)
       |(refine aj h rfl ?_)
       |(refine aJ h ?_)
       |(refine aI h rfl ?_)
       |(refine aw h (by rfl) λw h=>?_)
       |(refine aA h λn w h=>?_)
       |(refine aN h λw h=>?_)
       |(refine aU h rfl λw h=>?_;dsimp only[dj,over]at h))
      have h:=(h.du (b:=b) (L':=(ad.cN nw ((wM u {u.m with gq:=if u.m.cv>u.m.gq then u.m.cv else u.m.gq,mode:=3})))) (by simp));exact⟨trivial,h.aG⟩
     ·have c:r.1=false:=c;rw[ay (by rw[c];simp)];exact⟨trivial,h.aG⟩
   ·refine aK h (λ_=>ah n1 (Ks.mk aO s)^ah b (ad.cN nw ((wM v m3)))^ah nw (ad.dH ((wM v m3).m.w))) (λy:Bool=>y=decide (m3.mode=1∧m3.b.dg>0∧kd s≤rD m3 256)) (λ(y:Bool) w hy h=>?_) ?_
    ·rw[hy];refine ae (λc=>?_) λc=>?_
     ·have e:sC m3 s=eG m3 (iw s):=(by unfold sC;rw[aC (bJ c)]);rw[e];exact QR b nw n1 (wM v m3) s h λw h=>⟨trivial,h.aG⟩
     ·have e:sC m3 s=m3:=(by unfold sC;rw[ay (bQ c)]);rw[e];exact⟨trivial,h⟩
    ·refine aH h λw h=>ac (aj h rfl (ae (λc=>?_) λc=>?_))
     ·have c1:m3.mode=1:=bV;refine ae (λc=>?_) λc=>?_
      ·have c2:m3.b.dg>0:=bJ c;repeat' (first
        |(refine aH h λw h=>?_)
        |(refine ac ?_)
        |(refine ar h rfl ?_)
        |(refine aj h rfl ?_)
        |(refine aJ h ?_)
        |(refine aI h rfl ?_)
        |(refine aw h (by rfl) λw h=>?_)
        |(refine aA h λn w h=>?_)
        |(refine aN h λw h=>?_)
        |(refine aU h rfl λw h=>?_;dsimp only[dj,over]at h)
        |(refine af (sG b nw (wM v m3)) h λr w h=>?_;obtain⟨hr,h⟩:=h.aB;(try dsimp only at hr h);try rw[hr])
        |(refine af (vo _ _ _ ok3.bw ok3.b.dg (aX 256)) h λr w h=>?_;obtain⟨hr,h⟩:=h.aB;(try dsimp only at hr h);try rw[hr]))
       exact⟨by simp[c1,c2,rD],h.aG⟩
      ·have c2:¬m3.b.dg>0:=bQ c;exact⟨by simp[c2],h⟩
     ·have c1:¬m3.mode=1:=bV;exact⟨by simp[c1],h⟩
  ·refine aK h (λ_=>ah n1 (Ks.mk aO s)^ah b (ad.cN nw ((wM v m2)))^ah nw (ad.dH ((wM v m2).m.w))) (λy:Bool=>y=decide (m2.mode=0∧m2.p.full=true)) (λ(y:Bool) w hy h=>?_) ?_
   ·rw[hy];refine ae (λc=>?_) λc=>?_
    ·have e:qJ m2={m2 with mode:=1}:=(by unfold qJ;rw[aC (bJ c)]);rw[e];repeat' (first
      |(refine aH h λw h=>?_)
      |(refine ac ?_)
      |(refine ar h rfl ?_)
      |(refine aj h rfl ?_)
      |(refine aJ h ?_)
      |(refine aI h rfl ?_)
      |(refine aw h (by rfl) λw h=>?_)
      |(refine aA h λn w h=>?_)
      |(refine aN h λw h=>?_)
      |(refine aU h rfl λw h=>?_;dsimp only[dj,over]at h))
     have h:=(h.du (b:=b) (L':=(ad.cN nw ((wM v {m2 with mode:=1})))) (by simp));exact⟨trivial,h.aG⟩
    ·have e:qJ m2=m2:=(by unfold qJ;rw[ay (bQ c)]);rw[e];exact⟨trivial,h⟩
   ·repeat' (first
     |(refine aH h λw h=>?_)
     |(refine ac ?_)
     |(refine ar h rfl ?_)
     |(refine aj h rfl ?_)
     |(refine aJ h ?_)
     |(refine aI h rfl ?_)
     |(refine aw h (by rfl) λw h=>?_)
     |(refine aA h λn w h=>?_)
     |(refine aN h λw h=>?_)
     |(refine aU h rfl λw h=>?_;dsimp only[dj,over]at h)
     |(refine ae (λc=>?_) λc=>?_))
    ·have c:m2.mode=0:=bV;exact⟨by simp[c],h⟩
    ·have c:¬m2.mode=0:=bV;exact⟨by simp[c],h⟩
theorem GH(b nw:Nat)(v:Rm)(hv:fP v.m):bm (Sz (some ⟨b,0⟩)) (ah b (ad.cN nw v)^ah nw (ad.dH v.m.w)) (λr=>bh (r=(fm v.m,jA v.m)) (ah b (ad.cN nw v)^ah nw (ad.dH v.m.w))):=
 br λw0 S R h=>by
  have hm:=hv.mode;refine ac (aj h rfl (ae (λc=>?_) λc=>?_))
  ·have c:v.m.mode=0:=bV;exact au.aE (by simp[fm,jA,c]) h
  have c0:¬v.m.mode=0:=bV;refine ae (λc=>?_) λc=>?_
  ·have c:v.m.mode=1:=bV;exact au.aE (by simp[fm,jA,c]) h
  have c1:¬v.m.mode=1:=bV;refine ae (λc=>?_) λc=>?_
  ·have c:v.m.mode=2:=bV;refine ac (aj h rfl (ae (λc2=>?_) λc2=>?_))
   ·have c2:v.m.q.iO=true:=c2;exact au.aE (by simp[fm,jA,c,c2]) h
   ·have c2:v.m.q.iO=false:=c2;refine ac (af (PT b nw v) h λr w h=>?_);obtain⟨hr,h⟩:=h.aB;rw[hr];exact au.aE (by simp[fm,jA,c,c2]) h.aG
  ·have c2:¬v.m.mode=2:=bV;have c3:v.m.mode=3:=(by omega);exact au.aE (by simp[fm,jA,c3]) h
def WO(v:Rm):eH.St:=(v.m.mode,v.m.c.ph,v.m.aQ,v.m.cv,yI v.m,v.m.b.dg,v.g,v.m.r.n,v.m.p.full,v.m.q.iO)
theorem qe(b nw:Nat)(v:Rm):bm (Oc (some ⟨b,0⟩)) (ah b (ad.cN nw v)^ah nw (ad.dH v.m.w)) (λr=>bh (r=WO v) (ah b (ad.cN nw v)^ah nw (ad.dH v.m.w))):=
 br λw0 S R h=>by
  refine aA h λn1 w h=>?_;repeat' (first
   |(refine aH h λw h=>?_)
   |(refine ac ?_)
   |(refine ar h rfl ?_)
   |(refine aj h rfl ?_)
   |(refine aJ h ?_)
   |(refine aI h rfl ?_)
   |(refine aw h (by rfl) λw h=>?_)
   |(refine aA h λn w h=>?_)
   |(refine aN h λw h=>?_)
   |(refine aU h rfl λw h=>?_;dsimp only[dj,over]at h)
   |(refine af (sG b nw v) h λr w h=>?_;obtain⟨hr,h⟩:=h.aB;(try dsimp only at hr h);try rw[hr]))
  exact au.aE rfl h.aG
theorem JI(b nw:Nat)(v:Rm)(hv:fP v.m)(s:Sm)(hs:oX s)(tso:Int)(ht:U tso):bm (SB (some ⟨b,0⟩) s tso (jA v.m)) (ah b (ad.cN nw v)^ah nw (ad.dH v.m.w)) (λ_=>ah b (ad.cN nw ((wM v (ej v.m s tso))))^ah nw (ad.dH ((wM v (ej v.m s tso)).m.w))):=
 br λw0 S R h=>by
  refine aA h λn1 w h=>?_;repeat' (first
   |(refine aH h λw h=>?_)
   |(refine ac ?_)
   |(refine ar h rfl ?_)
   |(refine aj h rfl ?_)
   |(refine aJ h ?_)
   |(refine aI h rfl ?_)
   |(refine aw h (by rfl) λw h=>?_)
   |(refine aA h λn w h=>?_)
   |(refine aN h λw h=>?_)
   |(refine aU h rfl λw h=>?_;dsimp only[dj,over]at h)
   |(refine af (jI _ _ hv.cv hs.be) h λr w h=>?_;obtain⟨hr,h⟩:=h.aB;(try dsimp only at hr h);try rw[hr]))
  have h:=(h.du (b:=b) (L':=(ad.cN nw ((wM v (xt v.m s))))) (by simp));have h:au w0 S R _ (ah n1 (Ks.mk aO s)^ah b (ad.cN nw ((wM v (xt v.m s))))^ah nw (ad.dH ((wM v (xt v.m s)).m.w))):=h.aG;have hdef:ej v.m s tso=Jd (C3 (tj (xt v.m s) s tso)):=rfl;rw[hdef];have o1:=hv.w1 hs;have e1:jA v.m=jA (xt v.m s):=rfl;rw[e1]
  try dsimp only
  have e3:v.m.b.dg=(xt v.m s).b.dg:=rfl;have e4:v.m.bn=(xt v.m s).bn:=rfl;rw[e3,e4];clear e1 e3 e4;generalize xt v.m s=m1 at*
  repeat' (first
   |(refine aH h λw h=>?_)
   |(refine ac ?_)
   |(refine ar h rfl ?_)
   |(refine aj h rfl ?_)
   |(refine aJ h ?_)
   |(refine aI h rfl ?_)
   |(refine aw h (by rfl) λw h=>?_)
   |(refine aA h λn w h=>?_)
   |(refine aN h λw h=>?_)
   |(refine aU h rfl λw h=>?_;dsimp only[dj,over]at h)
   |(refine af (sG b nw (wM v m1)) h λr w h=>?_;obtain⟨hr,h⟩:=h.aB;(try dsimp only at hr h);try rw[hr]))
  refine af (Ng _ _ _ _ _ o1.bw o1.b.dg (E_ m1) ht o1.PB) h λr w h=>?_;obtain⟨hr,h⟩:=h.aB;rw[hr];have h:au w0 S R _ (ah n1 (Ks.mk aO s)^ah b (ad.cN nw ((wM v m1)))^ah nw (ad.dH ((wM v m1).m.w))):=h.aG;have etar:Az (yI m1) m1.b.dg (jA m1) tso m1.bn=nN m1 tso:=rfl;have o2:=o1.w2 hs ht;refine aK h (λ_=>ah n1 (Ks.mk aO s)^ah b (ad.cN nw ((wM v (tj m1 s tso))))^ah nw (ad.dH ((wM v (tj m1 s tso)).m.w))) (λ_=>True) (λ_ w _ h=>?_) ?_
  ·generalize tj m1 s tso=m2 at*
   have ef:IntKind.u64.wrap (4*m2.bn)=jc m2:=BW o2.bn;repeat' (first
    |(refine aH h λw h=>?_)
    |(refine ac ?_)
    |(refine ar h rfl ?_)
    |(refine aj h rfl ?_)
    |(refine aJ h ?_)
    |(refine aI h rfl ?_)
    |(refine aw h (by rfl) λw h=>?_)
    |(refine aA h λn w h=>?_)
    |(refine aN h λw h=>?_)
    |(refine aU h rfl λw h=>?_;dsimp only[dj,over]at h))
   have h:=(h.du (b:=b) (L':=(ad.cN nw ((wM v (C3 m2))))) (by simp[ef]));have h:au w0 S R _ (ah n1 (Ks.mk aO s)^ah b (ad.cN nw ((wM v (C3 m2))))^ah nw (ad.dH ((wM v (C3 m2)).m.w))):=h.aG;have o3:=o2.w3;have em:m2.mode=(C3 m2).mode:=rfl
   try rw[em]
   clear em;generalize C3 m2=m3 at*
   have ef3:IntKind.u64.wrap (4*m3.bn)=jc m3:=BW o3.bn;unfold Jd;refine ae (λc=>?_) λc=>?_
   ·have c:m3.mode=3:=bV;rw[aC c];repeat' (first
     |(refine aH h λw h=>?_)
     |(refine ac ?_)
     |(refine ar h rfl ?_)
     |(refine aj h rfl ?_)
     |(refine aJ h ?_)
     |(refine aI h rfl ?_)
     |(refine aw h (by rfl) λw h=>?_)
     |(refine aA h λn w h=>?_)
     |(refine aN h λw h=>?_)
     |(refine aU h rfl λw h=>?_;dsimp only[dj,over]at h))
    have h:=(h.du (b:=b) (L':=(ad.cN nw ((wM v {m3 with cv:=jc m3})))) (by simp[ef3]));exact h.aG
   ·have c:¬m3.mode=3:=bV;rw[ay c];exact h.aG
  ·unfold tj;refine ac (aj h rfl (ae (λc=>?_) λc=>?_))
   ·have c:m1.first=true:=c;rw[aC c];repeat' (first
     |(refine aH h λw h=>?_)
     |(refine ac ?_)
     |(refine ar h rfl ?_)
     |(refine aj h rfl ?_)
     |(refine aJ h ?_)
     |(refine aI h rfl ?_)
     |(refine aw h (by rfl) λw h=>?_)
     |(refine aA h λn w h=>?_)
     |(refine aN h λw h=>?_)
     |(refine aU h rfl λw h=>?_;dsimp only[dj,over]at h)
     |(refine af (fz _ _ hs.UK hs.Dh) h λr w h=>?_;obtain⟨hr,h⟩:=h.aB;(try dsimp only at hr h);try rw[hr]))
    have h:=(h.du (b:=b) (L':=(ad.cN nw ((wM v {m1 with cv:=if bA (kd s) (fj s)>m1.cv then bA (kd s) (fj s)else m1.cv})))) (by simp));exact⟨trivial,h.aG⟩
   have c:m1.first=false:=c;rw[ay (by rw[c];simp)];have ha:=hs.Dh.1;refine aj h rfl (ae (λc2=>?_) λc2=>?_)
   ·have c2:fj s=0:=gk;rw[ay (by omega)];exact⟨trivial,h⟩
   have c2:¬fj s=0:=gk;rw[aC (by omega)];refine ac (aj h rfl (ae (λc3=>?_) λc3=>?_))
   ·have c3:m1.p.full=true:=c3;rw[aC c3];repeat' (first
     |(refine aH h λw h=>?_)
     |(refine ac ?_)
     |(refine ar h rfl ?_)
     |(refine aj h rfl ?_)
     |(refine aJ h ?_)
     |(refine aI h rfl ?_)
     |(refine aw h (by rfl) λw h=>?_)
     |(refine aA h λn w h=>?_)
     |(refine aN h λw h=>?_)
     |(refine aU h rfl λw h=>?_;dsimp only[dj,over]at h)
     |(refine af (fz _ _ o1.cv hs.Dh) h λr w h=>?_;obtain⟨hr,h⟩:=h.aB;(try dsimp only at hr h);try rw[hr]))
    have h:=(h.du (b:=b) (L':=(ad.cN nw ((wM v {m1 with cv:=if nN m1 tso<bA m1.cv (fj s)then nN m1 tso else bA m1.cv (fj s)})))) (by simp[nN];rfl));exact⟨trivial,h.aG⟩
   have c3:m1.p.full=false:=c3;rw[ay (by rw[c3];simp)];have e10:IntKind.u64.wrap (10*m1.bn)=10*m1.bn:=(by have:=o1.bn;exact wu (by omega) (by omega));refine aK h (λ_=>ah n1 (Ks.mk aO s)^ah b (ad.cN nw ((wM v m1)))^ah nw (ad.dH ((wM v m1).m.w))) (λy:Bool=>y=decide (m1.cv<nN m1 tso∨gp s<10*m1.bn)) (λ(y:Bool) w hy h=>?_) ?_
   ·rw[hy];refine ae (λc4=>?_) λc4=>?_
    ·rw[aC (bJ c4)];repeat' (first
      |(refine aH h λw h=>?_)
      |(refine ac ?_)
      |(refine ar h rfl ?_)
      |(refine aj h rfl ?_)
      |(refine aJ h ?_)
      |(refine aI h rfl ?_)
      |(refine aw h (by rfl) λw h=>?_)
      |(refine aA h λn w h=>?_)
      |(refine aN h λw h=>?_)
      |(refine aU h rfl λw h=>?_;dsimp only[dj,over]at h)
      |(refine af (fz _ _ o1.cv hs.Dh) h λr w h=>?_;obtain⟨hr,h⟩:=h.aB;(try dsimp only at hr h);try rw[hr]))
     have h:=(h.du (b:=b) (L':=(ad.cN nw ((wM v {m1 with cv:=bA m1.cv (fj s)})))) (by simp));exact⟨trivial,h.aG⟩
    ·rw[ay (bQ c4)];exact⟨trivial,h⟩
   ·refine aH h λw h=>ac (aj h rfl (ae (λc4=>?_) λc4=>?_))
    ·have c4:m1.cv<nN m1 tso:=bJ c4;exact⟨by simp[c4],h⟩
    ·have c4:¬m1.cv<nN m1 tso:=bQ c4;refine aj h rfl (ac (aj h rfl ?_));dsimp only;rw[e10];exact⟨by simp[c4],h⟩
theorem Q8{m:Md}(h:m.mode=3)(s:Sm)(tso:Int):ej m s tso={m with cv:=jc m}:=by
 have k2:∀m:Md,∃x,tj m s tso={m with cv:=x}:=λm=>by
  unfold tj;(repeat' split)<;>exact⟨_,rfl⟩
 obtain⟨x,hx⟩:=k2 (xt m s);unfold ej;rw[hx];unfold Jd;rw[aC (by show m.mode=3;exact h)]
 rfl
theorem Nb(b nw:Nat)(v:Rm)(hv:fP v.m)(o:Bool)(s:Sm)(hs:oX s):bm (SA (some ⟨b,0⟩) s o) (ah b (ad.cN nw v)^ah nw (ad.dH v.m.w))
  (λ_=>wZ (λx:Int=>U x∧(v.m.mode≠3→x=(bq v.m s o).cv)) (λx=>ah b (ad.cN nw ((wM v {bq v.m s o with cv:=x})))^ah nw (ad.dH ((wM v {bq v.m s o with cv:=x}).m.w)))):=
 br λw0 S R h=>by
  refine aA h λn1 w h=>?_;have h:au w0 S R w (ah n1 (Ks.mk aO s)^ah b (ad.cN nw v)^ah nw (ad.dH v.m.w)):=h;refine aK h (λ_=>ah n1 (Ks.mk aO s)^ah b (ad.cN nw v)^ah nw (ad.dH v.m.w)) (λy:Bool=>y=decide (gr s>0∧v.m.lJ=false)) (λ(y:Bool) w hy h=>?_) ?_
  ·rw[hy];unfold bq;refine ae (λc=>?_) λc=>?_
   ·rw[aC (bJ c)];repeat' (first
     |(refine aH h λw h=>?_)
     |(refine ac ?_)
     |(refine ar h rfl ?_)
     |(refine aj h rfl ?_)
     |(refine aJ h ?_)
     |(refine aI h rfl ?_)
     |(refine aw h (by rfl) λw h=>?_)
     |(refine aA h λn w h=>?_)
     |(refine aN h λw h=>?_)
     |(refine aU h rfl λw h=>?_;dsimp only[dj,over]at h)
     |(refine af (fz _ _ hs.del hs.UK) h λr w h=>?_;obtain⟨hr,h⟩:=h.aB;(try dsimp only at hr h);try rw[hr]))
    have h:=(h.du (b:=b) (L':=(ad.cN nw ((wM v {v.m with lJ:=true,first:=true,jN:=bA (gp s) (kd s),gq:=if v.m.cv>v.m.gq then v.m.cv else v.m.gq})))) (by simp));exact(h.qH v.m.cv ⟨hv.cv,λ_=>rfl⟩).bk
   rw[ay (bQ c)];refine ac (aj h rfl (ae (λc2=>?_) λc2=>?_))
   ·have c2:v.m.lJ=false:=gk;rw[ay (by rw[c2];simp)];exact(h.qH v.m.cv ⟨hv.cv,λ_=>rfl⟩).bk
   have c2:v.m.lJ=true:=gk;rw[aC c2];refine aK h (λ_=>ah n1 (Ks.mk aO s)^ah b (ad.cN nw ((wM v {v.m with first:=v.m.first&&!o})))^ah nw (ad.dH ((wM v {v.m with first:=v.m.first&&!o}).m.w))) (λ_=>True) (λ_ w _ h=>?_) ?_
   ·repeat' (first
     |(refine aH h λw h=>?_)
     |(refine ac ?_)
     |(refine ar h rfl ?_)
     |(refine aj h rfl ?_)
     |(refine aJ h ?_)
     |(refine aI h rfl ?_)
     |(refine aw h (by rfl) λw h=>?_)
     |(refine aA h λn w h=>?_)
     |(refine aN h λw h=>?_)
     |(refine aU h rfl λw h=>?_;dsimp only[dj,over]at h))
    refine ae (λc3=>?_) λc3=>?_
    ·have c3:gp s≥v.m.jN:=bJ c3;rw[ay (show ¬gp s<v.m.jN by omega)];repeat' (first
      |(refine aH h λw h=>?_)
      |(refine ac ?_)
      |(refine ar h rfl ?_)
      |(refine aj h rfl ?_)
      |(refine aJ h ?_)
      |(refine aI h rfl ?_)
      |(refine aw h (by rfl) λw h=>?_)
      |(refine aA h λn w h=>?_)
      |(refine aN h λw h=>?_)
      |(refine aU h rfl λw h=>?_;dsimp only[dj,over]at h))
     refine ae (λc4=>?_) λc4=>?_
     ·have c4:v.m.mode≠3:=(by simpa using c4);repeat' (first
       |(refine aH h λw h=>?_)
       |(refine ac ?_)
       |(refine ar h rfl ?_)
       |(refine aj h rfl ?_)
       |(refine aJ h ?_)
       |(refine aI h rfl ?_)
       |(refine aw h (by rfl) λw h=>?_)
       |(refine aA h λn w h=>?_)
       |(refine aN h λw h=>?_)
       |(refine aU h rfl λw h=>?_;dsimp only[dj,over]at h))
      have h:=(h.du (b:=b) (L':=(ad.cN nw ((wM v (jV {v.m with first:=v.m.first&&!o}))))) (by simp[jV,c4]));have ew:(jV {v.m with first:=v.m.first&&!o}).w=v.m.w:=(by unfold jV;split<;>rfl);rw[←ew]at h;have hU:U (jV {v.m with first:=v.m.first&&!o}).cv:=by
       simp only[jV,aC c4];exact Aj hv.gq hv.cv
      generalize jV {v.m with first:=v.m.first&&!o}=mo at*
      exact(h.qH mo.cv ⟨hU,λ_=>rfl⟩).bk
     ·have c4:v.m.mode=3:=(by simpa using c4);have h:=(h.du (b:=b) (L':=(ad.cN nw ((wM v {jV {v.m with first:=v.m.first&&!o}with cv:=if v.m.gq>v.m.cv then v.m.gq else v.m.cv})))) (by simp[jV,c4]));have ew:(jV {v.m with first:=v.m.first&&!o}).w=v.m.w:=(by unfold jV;split<;>rfl);rw[←ew]at h;generalize jV {v.m with first:=v.m.first&&!o}=mo at*
      exact(h.qH (if v.m.gq>v.m.cv then v.m.gq else v.m.cv) ⟨Aj hv.gq hv.cv,λhh=>absurd c4 hh⟩).bk
    ·have c3:¬gp s≥v.m.jN:=bQ c3;rw[aC (show gp s<v.m.jN by omega)];exact(h.qH v.m.cv ⟨hv.cv,λ_=>rfl⟩).bk
   ·refine ae (λc3=>?_) λc3=>?_
    ·repeat' (first
      |(refine aH h λw h=>?_)
      |(refine ac ?_)
      |(refine ar h rfl ?_)
      |(refine aj h rfl ?_)
      |(refine aJ h ?_)
      |(refine aI h rfl ?_)
      |(refine aw h (by rfl) λw h=>?_)
      |(refine aA h λn w h=>?_)
      |(refine aN h λw h=>?_)
      |(refine aU h rfl λw h=>?_;dsimp only[dj,over]at h))
     have h:=(h.du (b:=b) (L':=(ad.cN nw ((wM v {v.m with first:=v.m.first&&!o})))) (by rw[c3];simp));exact⟨trivial,h.aG⟩
    ·have h:=(h.du (b:=b) (L':=(ad.cN nw ((wM v {v.m with first:=v.m.first&&!o})))) (by rw[c3];simp));exact⟨trivial,h.aG⟩
  ·refine aj h rfl (ae (λc=>?_) λc=>?_)
   ·have c:gr s>0:=bJ c;exact ac (aj h rfl ⟨by simp[c],h⟩)
   ·have c:¬gr s>0:=bQ c;exact⟨by simp[c],h⟩
theorem zP(n:Int):bm (RP n) aT (λr=>ex λp:Nat×Nat=>bh (r=some ⟨p.1,0⟩) (ah p.1 ((λb nw=>(ad.cN nw ((Rm.mk (lZ n) false 0 739)))) p.1 p.2)^ah p.2 (ad.dH ((lZ n).w)))):=
 br λw0 S R h=>by
  refine af (NC 10) h λr w h=>?_;obtain⟨nw,h⟩:=h.lX;obtain⟨hr,h⟩:=h.aB;rw[hr];have em:(if(if(9000:Int)<n then(9000:Int)else n)>(100:Int)then(if(9000:Int)<n then(9000:Int)else n)else(100:Int))=mJ n:=by
   unfold mJ;(repeat' split)<;>omega
  rw[em];have hm:=HO n;have ew:IntKind.u64.wrap ((10:Int)*mJ n)=10*mJ n:=wu (by omega) (by omega);have ew2:IntKind.u64.wrap (10*mJ n*1000)=10*mJ n*1000:=wu (by omega) (by omega);rw[ew];refine aA h λb w h=>?_;refine ac (aU h rfl λw h=>?_);dsimp only[dj,over]at h;refine ac (aj h rfl ?_);dsimp only;rw[ew2];refine af (Bp _ _ ⟨by omega,by omega⟩ (aX 739)) h λr w h=>?_;obtain⟨hr,h⟩:=h.aB;rw[hr];refine ac (aU h rfl λw h=>?_);dsimp only[dj,over]at h;have h:=(h.du (b:=b) (L':=(ad.cN nw ((Rm.mk (lZ n) false 0 739)))) (by simp));exact au.gX (b,nw) (au.aE rfl h.aG)
theorem yR(b nw n1 n2:Nat)(v:Rm)(hv:fP v.m)(s:Sm){w0 w:World}{S R:Nat→Prop}{K:WP}(h:au w0 S R w (ah n1 (Ks.mk aO s)^ah n2 [.int .i64 (0:Int),.int .i64 (0:Int),.int .u64 (0:Int),.int .u64 (0:Int),.int .u64 (0:Int),.int .u64 (0:Int),.int .u64 (0:Int),.int .u64 (0:Int),.bool false,.bool false]^ah b (ad.cN nw v)^ah nw (ad.dH v.m.w)))(k:∀w,au w0 S R w (ah n1 (Ks.mk aO s)^ah n2 [.int .i64 (0:Int),.int .i64 (0:Int),.int .u64 (0:Int),.int .u64 (0:Int),.int .u64 (0:Int),.int .u64 (0:Int),.int .u64 (0:Int),.int .u64 (0:Int),.bool false,.bool false]^ah b (ad.cN nw ((wM v (dD v.m))))^ah nw (ad.dH ((wM v (dD v.m)).m.w)))→K w):
  join [] (λJ36=>
 call Tryz.prog fO [.lf (.ptr (some ⟨b,0⟩))] [.lf (.int .u64)] λ(r38:Int)=>
 aq (decide (r38>(0:Int))) (
 call Tryz.prog fO [.lf (.ptr (some ⟨b,0⟩))] [.lf (.int .u64)] λ(r39:Int)=>
 call Tryz.prog tD [.lf (.int .u64 r39),.lf (.int .u64 (fm v.m))] [.lf (.int .u64)] λ(r40:Int)=>
 join [.bool] (λJ41=>
 deref (some ⟨b,0⟩) λq43=>
 ld [.bool] ⟨q43.b,q43.o+6⟩ λ(x44:Bool)=>
 aq x44 (
 J41 true)<|
 deref (some ⟨b,0⟩) λq45=>
 ld [.int .u64] ⟨q45.b,q45.o+24⟩ λ(x46:Int)=>
 J41 (decide ((if r40>(1:Int)then r40 else(1:Int))>x46))) λ(y42:Bool)=>
 aq y42 (
 deref (some ⟨b,0⟩) λq47=>
 st ⟨q47.b,q47.o+24⟩ [.int .u64 (if r40>(1:Int)then r40 else(1:Int))]<|
 J36 ())<|
 J36 ())<|
 J36 ()) (λ_=>K) w:=by
 refine aK h (λ_=>ah n1 (Ks.mk aO s)^ah n2 [.int .i64 (0:Int),.int .i64 (0:Int),.int .u64 (0:Int),.int .u64 (0:Int),.int .u64 (0:Int),.int .u64 (0:Int),.int .u64 (0:Int),.int .u64 (0:Int),.bool false,.bool false]^ah b (ad.cN nw ((wM v (dD v.m))))^ah nw (ad.dH ((wM v (dD v.m)).m.w))) (λ_=>True) (λ_ w _ h=>k w h) ?_;unfold dD;have hb:=hv.bw;refine af (sG b nw v) h λr w h=>?_;obtain⟨hr,h⟩:=h.aB;rw[hr];refine ae (λc=>?_) λc=>?_
 ·have c:yI v.m>0:=bJ c;rw[ay (by omega)];refine af (sG b nw v) h λr w h=>?_;obtain⟨hr,h⟩:=h.aB;rw[hr];refine af (Bp _ _ hb (E8 v.m)) h λr w h=>?_;obtain⟨hr,h⟩:=h.aB;have e:(if r>(1:Int)then r else(1:Int))=Jc v.m:=by
   have e:∀x:Int,(if x>1 then x else 1)=if 1>x then 1 else x:=λx=>by(repeat' split)<;>omega
   rw[hr];exact e _
  rw[e];have h:au _ _ _ _ (ah n1 (Ks.mk aO s)^ah n2 [.int .i64 (0:Int),.int .i64 (0:Int),.int .u64 (0:Int),.int .u64 (0:Int),.int .u64 (0:Int),.int .u64 (0:Int),.int .u64 (0:Int),.int .u64 (0:Int),.bool false,.bool false]^ah b (ad.cN nw v)^ah nw (ad.dH v.m.w)):=h.aG;refine aK h (λ_=>ah n1 (Ks.mk aO s)^ah n2 [.int .i64 (0:Int),.int .i64 (0:Int),.int .u64 (0:Int),.int .u64 (0:Int),.int .u64 (0:Int),.int .u64 (0:Int),.int .u64 (0:Int),.int .u64 (0:Int),.bool false,.bool false]^ah b (ad.cN nw v)^ah nw (ad.dH v.m.w)) (λy:Bool=>y=decide (v.m.p.full=true∨Jc v.m>v.m.aQ)) (λ(y:Bool) w hy h=>?_) ?_
  ·rw[hy];refine ae (λc2=>?_) λc2=>?_
   ·rw[aC (bJ c2)];repeat' (first
     |(refine aH h λw h=>?_)
     |(refine ac ?_)
     |(refine ar h rfl ?_)
     |(refine aj h rfl ?_)
     |(refine aJ h ?_)
     |(refine aI h rfl ?_)
     |(refine aw h (by rfl) λw h=>?_)
     |(refine aA h λn w h=>?_)
     |(refine aN h λw h=>?_)
     |(refine aU h rfl λw h=>?_;dsimp only[dj,over]at h))
    have h:=(h.du (b:=b) (L':=(ad.cN nw ((wM v {v.m with aQ:=Jc v.m})))) (by simp));exact⟨trivial,h.aG⟩
   ·rw[ay (bQ c2)];exact⟨trivial,h⟩
  ·refine ac (aj h rfl (ae (λc2=>?_) λc2=>?_))
   ·have c2:v.m.p.full=true:=c2;exact⟨by simp[c2],h⟩
   ·have c2:v.m.p.full=false:=c2;exact ac (aj h rfl ⟨by simp[c2],h⟩)
 ·have c:¬yI v.m>0:=bQ c;have:=hb.1;rw[aC (by omega)];exact⟨trivial,h.aG⟩
theorem Jz(b nw n1 n2:Nat)(v:Rm)(hv:fP v.m)(s:Sm)(hs:oX s){w0 w:World}{S R:Nat→Prop}{K:WP}(h:au w0 S R w (ah n1 (Ks.mk aO s)^ah n2 [.int .i64 (0:Int),.int .i64 (0:Int),.int .u64 (0:Int),.int .u64 (0:Int),.int .u64 (0:Int),.int .u64 (0:Int),.int .u64 (0:Int),.int .u64 (0:Int),.bool false,.bool false]^ah b (ad.cN nw v)^ah nw (ad.dH v.m.w)))(k:∀w,au w0 S R w (ah n1 (Ks.mk aO s)^ah n2 [.int .i64 (0:Int),.int .i64 (0:Int),.int .u64 (0:Int),.int .u64 (0:Int),.int .u64 (0:Int),.int .u64 (0:Int),.int .u64 (0:Int),.int .u64 (0:Int),.bool false,.bool false]^ah b (ad.cN nw ((wM v (eP v.m s))))^ah nw (ad.dH ((wM v (eP v.m s)).m.w)))→K w):
  join [] (λJ9=>
 join [.bool] (λJ11=>
 ld [.int .u64] ⟨n1,5⟩ λ(x13:Int)=>
 aq (decide (x13>(0:Int))) (
 ld [.int .u64] ⟨n1,3⟩ λ(x14:Int)=>
 J11 (decide (x14>(0:Int))))<|
 J11 false) λ(y12:Bool)=>
 aq y12 (
 bF<|
 ld [.int .u64] ⟨n1,1⟩ λ(x15:Int)=>
 ld [.int .u64] ⟨n1,2⟩ λ(x16:Int)=>
 ld [.int .u64] ⟨n1,3⟩ λ(x17:Int)=>
 call Tryz.prog uy [.lf (.int .u64 x15),.lf (.int .u64 x16)] [.lf (.int .u64)] λ(r18:Int)=>
 co ⟨n1,3⟩ (Ks.mk [.int .u64] x17)<|
 call Tryz.prog qU [.lf (.int .u64 r18),.lf (.int .u64 (1000000000:Int)),.lf (.int .u64 x17)] [.lf (.int .u64)] λ(r19:Int)=>
 join [.bool] (λJ20=>
 ld [.bool] ⟨n1,8⟩ λ(x22:Bool)=>
 aq (!x22) (
 J20 true)<|
 deref (some ⟨b,0⟩) λq23=>
 ld [.ptr] ⟨q23.b,q23.o+1⟩ λ(x24:Option Pt)=>
 deref x24 λq25=>
 d_ (0≤(0:Int)∧(0:Int)<3)<|
 ld [.int .u64] ⟨q25.b,q25.o+4+(0:Int).toNat*1⟩ λ(x26:Int)=>
 J20 (decide (r19≥x26))) λ(y21:Bool)=>
 aq y21 (
 bF<|
 deref (some ⟨b,0⟩) λq27=>
 deref (some ⟨b,0⟩) λq28=>
 ld [.ptr] ⟨q27.b,q27.o+1⟩ λ(x29:Option Pt)=>
 ld [.int .u64] ⟨q28.b,q28.o+2⟩ λ(x30:Int)=>
 call Tryz.prog oL [.lf (.ptr x29),.lf (.int .u64 x30),.lf (.int .u64 r19)] [.lf (.int .u64)] λ(r31:Int)=>
 J9 ())<|
 J9 ())<|
 J9 ()) (λ_=>K) w:=by
 refine aK h (λ_=>ah n1 (Ks.mk aO s)^ah n2 [.int .i64 (0:Int),.int .i64 (0:Int),.int .u64 (0:Int),.int .u64 (0:Int),.int .u64 (0:Int),.int .u64 (0:Int),.int .u64 (0:Int),.int .u64 (0:Int),.bool false,.bool false]^ah b (ad.cN nw ((wM v (eP v.m s))))^ah nw (ad.dH ((wM v (eP v.m s)).m.w))) (λ_=>True) (λ_ w _ h=>k w h) ?_;unfold eP;have ha:=hs.Dh.1;have hti:=hs.UW.1;refine aK h (λ_=>ah n1 (Ks.mk aO s)^ah n2 [.int .i64 (0:Int),.int .i64 (0:Int),.int .u64 (0:Int),.int .u64 (0:Int),.int .u64 (0:Int),.int .u64 (0:Int),.int .u64 (0:Int),.int .u64 (0:Int),.bool false,.bool false]^ah b (ad.cN nw v)^ah nw (ad.dH v.m.w)) (λy:Bool=>y=decide (¬(fj s=0∨zU s=0))) (λ(y:Bool) w hy h=>?_) ?_
 ·rw[hy];refine ae (λc=>?_) λc=>?_
  ·have c:¬(fj s=0∨zU s=0):=bJ c;rw[ay c];have hd:=mS hs.del hs.pri;have hk:=xX hd (aX 1000000000) hs.UW;repeat' (first
    |(refine aH h λw h=>?_)
    |(refine ac ?_)
    |(refine ar h rfl ?_)
    |(refine aj h rfl ?_)
    |(refine aJ h ?_)
    |(refine aI h rfl ?_)
    |(refine aw h (by rfl) λw h=>?_)
    |(refine aA h λn w h=>?_)
    |(refine aN h λw h=>?_)
    |(refine aU h rfl λw h=>?_;dsimp only[dj,over]at h)
    |(refine af (jI _ _ hs.del hs.pri) h λr w h=>?_;obtain⟨hr,h⟩:=h.aB;(try dsimp only at hr h);try rw[hr]))
   refine af (nl _ _ _ hd (aX 1000000000) hs.UW) h λr w h=>?_;obtain⟨hr,h⟩:=h.aB;have hr:r=mK s:=hr;rw[hr];have h:au _ _ _ _ (ah n1 (Ks.mk aO s)^ah n2 [.int .i64 (0:Int),.int .i64 (0:Int),.int .u64 (0:Int),.int .u64 (0:Int),.int .u64 (0:Int),.int .u64 (0:Int),.int .u64 (0:Int),.int .u64 (0:Int),.bool false,.bool false]^ah b (ad.cN nw v)^ah nw (ad.dH v.m.w)):=h.aG;have hk:U (mK s):=hk;refine aK h (λ_=>ah n1 (Ks.mk aO s)^ah n2 [.int .i64 (0:Int),.int .i64 (0:Int),.int .u64 (0:Int),.int .u64 (0:Int),.int .u64 (0:Int),.int .u64 (0:Int),.int .u64 (0:Int),.int .u64 (0:Int),.bool false,.bool false]^ah b (ad.cN nw v)^ah nw (ad.dH v.m.w)) (λy:Bool=>y=decide (qN s=false∨mK s≥v.m.w.v0)) (λ(y:Bool) w hy h=>?_) ?_
   ·rw[hy];refine ae (λc2=>?_) λc2=>?_
    ·rw[aC (bJ c2)];repeat' (first
      |(refine aH h λw h=>?_)
      |(refine ac ?_)
      |(refine ar h rfl ?_)
      |(refine aj h rfl ?_)
      |(refine aJ h ?_)
      |(refine aI h rfl ?_)
      |(refine aw h (by rfl) λw h=>?_)
      |(refine aA h λn w h=>?_)
      |(refine aN h λw h=>?_)
      |(refine aU h rfl λw h=>?_;dsimp only[dj,over]at h))
     refine af (zT nw v.m.w hv.w v.m.r.n (mK s) hv.r.n hk) h λr w h=>?_;obtain⟨hr,h⟩:=h.aB;exact⟨trivial,h.aG⟩
    ·rw[ay (bQ c2)];exact⟨trivial,h⟩
   ·refine aj h rfl (ae (λc2=>?_) λc2=>?_)
    ·have c2:qN s=false:=gk;exact⟨by simp[c2],h⟩
    ·have c2:qN s=true:=gk;refine ac (aj h rfl (ac ⟨by decide,aj h rfl ?_⟩));exact⟨by simp[c2],h⟩
  ·have c:¬¬(fj s=0∨zU s=0):=bQ c;rw[aC (wh.1 c)];exact⟨trivial,h⟩
 ·refine aj h rfl (ae (λc=>?_) λc=>?_)
  ·have c:fj s>0:=bJ c;refine aj h rfl ⟨?_,h⟩;rw[jk,gK,gK];show zU s>0↔_;omega
  ·have c:¬fj s>0:=bQ c;refine⟨?_,h⟩;have:fj s=0:=(by omega);simp[this]
theorem FI{m m':Md}(h1:m'.mode=m.mode)(h2:m'.q=m.q)(h3:m'.c=m.c):fm m'=fm m:=by unfold fm;rw[h1,h2,h3]
theorem G_{m m':Md}(h1:m'.mode=m.mode):jA m'=jA m:=by unfold jA;rw[h1]
theorem TW(m:Md):(dD m).mode=m.mode∧(dD m).q=m.q∧(dD m).c=m.c∧(dD m).b=m.b:=by
 unfold dD;(repeat' split)<;>exact⟨rfl,rfl,rfl,rfl⟩
theorem LI(m:Md)(s:Sm)(o:Bool):(bq m s o).mode=m.mode∧(bq m s o).q=m.q∧(bq m s o).c=m.c∧(bq m s o).b=m.b:=by
 unfold bq jV;(repeat' split)<;>exact⟨rfl,rfl,rfl,rfl⟩
theorem LJ(m:Md)(s:Sm)(tso:Int):∃x,ej m s tso={m with cv:=x}:=by
 have k2:∀m:Md,∃x,tj m s tso={m with cv:=x}:=λm=>by
  unfold tj;(repeat' split)<;>exact⟨_,rfl⟩
 obtain⟨x,hx⟩:=k2 (xt m s);unfold ej;rw[hx];unfold Jd;split<;>exact⟨_,rfl⟩
theorem FN(m:Md)(s:Sm):(eP m s).b=m.b:=by
 unfold eP;(repeat' split)<;>rfl
theorem JA(b nw:Nat)(v:Rm)(hv:fP v.m)(hR:Rel v)(s:Sm)(hs:oX s)(tso:Int)(ht:U tso):bm (On (some ⟨b,0⟩) s tso) (ah b (ad.cN nw v)^ah nw (ad.dH v.m.w))
  (λr=>wZ (λu:Rm=>u.m=oP v.m s tso∧Rel u∧u.g=fm u.m∧r=Ac u.m) (λu=>ah b (ad.cN nw u)^ah nw (ad.dH u.m.w))):=
 br λw0 S R h=>by
  refine aA h λn1 w h=>?_;refine aA h λn2 w h=>?_;refine aH h λw h=>?_;obtain⟨o,ho⟩:∃o,o=rB v.m.r s:=⟨_,rfl⟩;have hu:oP v.m s tso=LX (Py (C2 v.m s) o s) o s tso:=by rw[ho];rfl
  have hm1:C2 v.m s={v.m with r:=rU v.m.r s,q:=xu v.m.q o s}:=by rw[ho]
  have o1:=hv.u1 hs;rw[hu];rw[hm1]at o1⊢;refine ar (x:=s) h rfl (ac ?_);refine af (Nc b nw v s hs) h λr w h=>?_;obtain⟨hr,h⟩:=h.aB;rw[hr,←ho];refine aH h λw h=>?_;refine ar (x:=s) h rfl (ac ?_);refine af (Jy b nw {v with m:={v.m with r:=rU v.m.r s}} hv.q o s hs) h λ_ w h=>?_;have hR1:Rel (wM v {v.m with r:=rU v.m.r s,q:=xu v.m.q o s}):=hR;have h:au w0 S R w (ah n1 (Ks.mk aO s)^ah n2 [.int .i64 (0:Int),.int .i64 (0:Int),.int .u64 (0:Int),.int .u64 (0:Int),.int .u64 (0:Int),.int .u64 (0:Int),.int .u64 (0:Int),.int .u64 (0:Int),.bool false,.bool false]^ah b (ad.cN nw ((wM v {v.m with r:=rU v.m.r s,q:=xu v.m.q o s})))^ah nw (ad.dH ((wM v {v.m with r:=rU v.m.r s,q:=xu v.m.q o s}).m.w))):=h.aG;generalize({v.m with r:=rU v.m.r s,q:=xu v.m.q o s}:Md)=m1 at h hR1 o1⊢;clear hm1 hu hr ho;refine Jz b nw n1 n2 (wM v m1) o1 s hs h λw h=>?_;have h:au w0 S R w (ah n1 (Ks.mk aO s)^ah n2 [.int .i64 (0:Int),.int .i64 (0:Int),.int .u64 (0:Int),.int .u64 (0:Int),.int .u64 (0:Int),.int .u64 (0:Int),.int .u64 (0:Int),.int .u64 (0:Int),.bool false,.bool false]^ah b (ad.cN nw ((wM v (eP m1 s))))^ah nw (ad.dH ((wM v (eP m1 s)).m.w))):=h;have o2:=o1.PA hs;have hb2:=FN m1 s;have hR2:Rel (wM v (eP m1 s)):=λhh=>by
   have hh:m1.b.on=true:=(by rw[←hb2];exact hh);have:=hR1 hh;show v.set=decide ((eP m1 s).b.jN≠0)∧(v.set=true→v.oR=(eP m1 s).b.jN);rw[hb2];exact this
  have hu2:Py m1 o s=HT (eP m1 s) s o:=rfl;rw[hu2];generalize eP m1 s=m2 at h hR2 o2⊢;refine ar (x:=s) h rfl ?_;refine af (GL b nw (wM v m2) o2 hR2 o s hs) h λ_ w h=>?_;obtain⟨u,⟨hu,hRu,_⟩,h⟩:=h.t_;have hu:u.m=HT m2 s o:=hu;have o3:fP u.m:=by rw[hu];exact(o2.Vy hs).pipe.m1.m2 hs |>.look hs
  rw[←hu];clear hu;refine af (GH b nw u o3) h λr w h=>?_;obtain⟨hr,h⟩:=h.aB;rw[hr];refine ac (aU h rfl λw h=>?_);dsimp only[dj,over]at h;have h:=(h.du (b:=b) (L':=(ad.cN nw ((Rm.mk u.m u.set u.oR (fm u.m))))) (by simp));have h:au w0 S R w (ah n1 (Ks.mk aO s)^ah n2 [.int .i64 (0:Int),.int .i64 (0:Int),.int .u64 (0:Int),.int .u64 (0:Int),.int .u64 (0:Int),.int .u64 (0:Int),.int .u64 (0:Int),.int .u64 (0:Int),.bool false,.bool false]^ah b (ad.cN nw ((Rm.mk u.m u.set u.oR (fm u.m))))^ah nw (ad.dH ((Rm.mk u.m u.set u.oR (fm u.m)).m.w))):=h.aG;refine yR b nw n1 n2 (Rm.mk u.m u.set u.oR (fm u.m)) o3 s h λw h=>?_;have o4:=o3.PP;obtain⟨p1,p2,p3,p4⟩:=TW u.m;have g4:=FI p1 p2 p3;have w4:=G_ p1;refine ar (x:=s) h rfl ?_;refine af (Nb b nw (Rm.mk (dD u.m) u.set u.oR (fm u.m)) o4 o s hs) h λ_ w h=>?_;obtain⟨x,⟨hx,hx3⟩,h⟩:=h.t_;obtain⟨q1,q2,q3,q4⟩:=LI (dD u.m) s o;have o5:=o4.recover (o:=o) hs;have o6:fP {bq (dD u.m) s o with cv:=x}:={o5 with cv:=hx};have w6:jA {bq (dD u.m) s o with cv:=x}=jA u.m:=(G_ (m:=bq (dD u.m) s o) (m':={bq (dD u.m) s o with cv:=x}) rfl).trans ((G_ q1).trans w4);refine ar (x:=s) h rfl ?_;dsimp only;rw[←w6];refine af (JI b nw (wM (Rm.mk (dD u.m) u.set u.oR (fm u.m)) {bq (dD u.m) s o with cv:=x}) o6 s hs tso ht) h λ_ w h=>?_;have hfin:ej {bq (dD u.m) s o with cv:=x} s tso=LX u.m o s tso:=by
   show _=ej (bq (dD u.m) s o) s tso;by_cases hm:(dD u.m).mode=3
   ·rw[Q8 (m:={bq (dD u.m) s o with cv:=x}) (q1.trans hm),Q8 (q1.trans hm)]
    rfl
   ·have:x=(bq (dD u.m) s o).cv:=hx3 hm;rw[this]
  obtain⟨y,hy⟩:=LJ {bq (dD u.m) s o with cv:=x} s tso;have gf:fm u.m=fm (LX u.m o s tso):=by
   rw[←hfin,hy,FI (m:=bq (dD u.m) s o) (m':={bq (dD u.m) s o with cv:=y}) rfl rfl rfl,FI q1 q2 q3,g4]
  have bf:(LX u.m o s tso).b=u.m.b:=by
   rw[←hfin,hy];show(bq (dD u.m) s o).b=u.m.b;rw[q4,p4]
  have hRf:Rel (Rm.mk (LX u.m o s tso) u.set u.oR (fm u.m)):=λhh=>by
   have:=hRu (by rw[←bf];exact hh);show u.set=decide ((LX u.m o s tso).b.jN≠0)∧(u.set=true→u.oR=(LX u.m o s tso).b.jN);rw[bf];exact this
  have h:au w0 S R w (ah b (ad.cN nw ((Rm.mk (ej {bq (dD u.m) s o with cv:=x} s tso) u.set u.oR (fm u.m))))^ah nw (ad.dH ((Rm.mk (ej {bq (dD u.m) s o with cv:=x} s tso) u.set u.oR (fm u.m)).m.w))^ah n2 [.int .i64 (0:Int),.int .i64 (0:Int),.int .u64 (0:Int),.int .u64 (0:Int),.int .u64 (0:Int),.int .u64 (0:Int),.int .u64 (0:Int),.int .u64 (0:Int),.bool false,.bool false]):=h.aG;rw[hfin]at h;generalize LX u.m o s tso=mf at h gf bf hRf⊢;refine af (qe b nw (Rm.mk mf u.set u.oR (fm u.m))) h λr w h=>?_;obtain⟨hr,h⟩:=h.aB;have hr:r=Ac mf:=by rw[hr];unfold WO Ac;rw[gf]
  rw[hr];refine aw h (by rfl) λw h=>?_;refine ar (x:=Ac mf) h rfl ?_;exact(h.qH (Rm.mk mf u.set u.oR (fm u.m)) ⟨rfl,hRf,gf,rfl⟩).bk
end C6

namespace JU
open bB bi dY fk dZ
abbrev rL(m0 c0:Int)(v:Sk)(sl:Sl)(m:Nat):List Lf:=[.int .i64 v.id,.int .i64 m0,.int .i64 c0,.int .i64 1073741824,.int .u64 (bU v.bf),.int .u64 (bN v.bf),.int .u64 (bW v.bf),.sl sl,.int .u64 v.bd.2,
 .int .u64 (pD v.sp),.int .u64 (pT v.sp),.int .u64 (pF v.sp),.int .u64 (pL v.sp),.bool (pH v.sp),.int .u64 (pG v.sp),.int .u64 (od v.sp),.int .u64 (mW v.sp),.int .u64 (mA v.sp),.int .u64 (mV v.sp),.bool (nr v.sp),
 .ptr (some ⟨m,0⟩),.int .u64 v.out,.int .u64 v.nx]
theorem Js(b:Nat)(m0 c0:Int)(v:Sk)(sl:Sl)(m:Nat)(n:Int)(ho:0≤v.out∧v.out<9223372036854775808)(hn:n<9223372036854775808):bm (TF (some ⟨b,0⟩) n)
  (ah b (rL m0 c0 v sl m)) (λr=>bh (r=(b_ v n).1) (ah b (rL m0 c0 (b_ v n).2 sl m))):=
 br λw0 S R h=>by
  have h:=h.le (aF _);refine aK h (λ_=>ah b (rL m0 c0 v sl m)^aT) (λ_=>1≤n∧n≤v.out) (λ_ w hc h=>?_) ?_
  ·have e:b_ v n=(0,{v with out:=v.out-n}):=(by unfold b_;rw[ay (by omega)]);rw[e];have e1:IntKind.u64.wrap (v.out-IntKind.u64.wrap n)=v.out-n:=(by rw[wu (n:=n) (by omega) (by omega),wu (by omega) (by omega)]);refine ac (aj (x:=v.out) h rfl (ac (az h b (rL m0 c0 {v with out:=v.out-n} sl m) rfl rfl (by rw[e1];rfl) λw h=>?_)));exact au.aE rfl h.aG
  ·refine ae (λc=>?_) λc=>?_
   ·have c:n<1:=bJ c;have e:b_ v n=(1,v):=(by unfold b_;rw[aC (by omega)]);rw[e];exact au.aE rfl h.aG
   ·have c:¬n<1:=bQ c;refine ac (aj (x:=v.out) h rfl (ae (λc2=>?_) λc2=>?_))
    ·have c2:IntKind.u64.wrap n>v.out:=bJ c2;rw[wu (by omega) (by omega)]at c2;have e:b_ v n=(1,v):=(by unfold b_;rw[aC (by omega)]);rw[e];exact au.aE rfl h.aG
    ·have c2:¬IntKind.u64.wrap n>v.out:=bQ c2;rw[wu (by omega) (by omega)]at c2;exact⟨⟨by omega,by omega⟩,h⟩
theorem GA(b:Nat)(m0 c0:Int)(v:Sk)(sl:Sl)(m:Nat)(upto:Int):bm (RR (some ⟨b,3⟩) upto)
  (ah b (rL m0 c0 v sl m)) (λr=>bh (r=(sV v.bf upto).1) (ah b (rL m0 c0 {v with bf:=(sV v.bf upto).2} sl m))):=
 br λw0 S R h=>by
  have h:=h.le (aF _);refine ac (aj (x:=bN v.bf) h rfl (ae (λc=>?_) λc=>?_))
  ·have c:upto>bN v.bf:=bJ c;have e:sV v.bf upto=(11,v.bf):=(by unfold sV;rw[aC c]);rw[e];exact au.aE rfl h.aG
  ·have c:¬upto>bN v.bf:=bQ c;have e:sV v.bf upto=(0,(bW v.bf,bN v.bf,if upto>bU v.bf then upto else bU v.bf,bL v.bf)):=(by unfold sV;rw[ay c]);rw[e];refine ac (aj (x:=bU v.bf) h rfl (ac (az h b (rL m0 c0 {v with bf:=(bW v.bf,bN v.bf,(if upto>bU v.bf then upto else bU v.bf),bL v.bf)} sl m) rfl rfl rfl λw h=>?_)));exact au.aE rfl h.aG
theorem EB(b:Nat)(m0 c0:Int)(v:Sk)(sl:Sl)(m:Nat)(flight:Int)(hs:oY v.sp)(hf:U flight):bm (SD (some ⟨b,9⟩) flight)
  (ah b (rL m0 c0 v sl m)) (λ_=>ah b (rL m0 c0 {v with sp:=nM v.sp flight} sl m)):=
 br λw0 S R h=>by
  have h:=h.le (aF _);refine ac (aj (x:=pD v.sp) h rfl (af (fz (pD v.sp) flight hs.d hf) (h.le ((aF _).trans (aV _ _))) λr w h=>?_));obtain⟨hr,h⟩:=h.aB;rw[hr];refine ac (az h b (rL m0 c0 {v with sp:=nM v.sp flight} sl m) rfl rfl rfl λw h=>?_);exact h.bk
theorem GS(b:Nat)(m0 c0:Int)(v:Sk)(sl:Sl)(m:Nat)(ao flight:Int):bm (SF (some ⟨b,9⟩) ao flight)
  (ah b (rL m0 c0 v sl m)) (λr=>bh (r=(jm v.sp ao flight).1) (ah b (rL m0 c0 {v with sp:=(jm v.sp ao flight).2} sl m))):=
 br λw0 S R h=>by
  refine aA (h.le (aF _)) λn1 w h=>?_;have h:au w0 S R w (ah n1 [.int .u64 0,.int .u64 0,.int .u64 0,.int .u64 0,.bool false]^ah b (rL m0 c0 v sl m)^aT):=h.aG;refine aK h (λ_=>ah n1 [.int .u64 0,.int .u64 0,.int .u64 0,.int .u64 0,.bool false]^ah b (rL m0 c0 {v with sp:=gu v.sp ao flight} sl m)^aT) (λ_=>True) (λ_ w _ h=>?_) ?_
  ·refine aH h λw h=>ac (ac (ac (ac (aj (x:=pD (gu v.sp ao flight)) h rfl (aj (x:=pT (gu v.sp ao flight)) h rfl (aj (x:=pF (gu v.sp ao flight)) h rfl (aj (x:=pL (gu v.sp ao flight)) h rfl ?_)))))));obtain⟨X,hX⟩:∃X:Ks.T bZ,X=(jm v.sp ao flight).1:=⟨_,rfl⟩;refine az h n1 (Ks.mk bZ X) rfl rfl ?_ λw h=>ar (b:=n1) (x:=X) h rfl ?_
   ·have e:(pL (gu v.sp ao flight)!=0)=decide (pL (gu v.sp ao flight)≠0):=by
     by_cases c:pL (gu v.sp ao flight)=0
     ·rw[c];rfl
     ·rw[kV c];simpa using c
    rw[e,hX];rfl
   ·have e2:(jm v.sp ao flight).2=gu v.sp ao flight:=rfl;rw[e2];exact au.aE hX h.aG
  ·refine ae (λc=>?_) λc=>?_
   ·have c:flight=0:=bV;refine ac (az h b (rL m0 c0 {v with sp:=(pD v.sp,pT v.sp,ao,pL v.sp,pH v.sp,pG v.sp,od v.sp,mW v.sp,nr v.sp,mA v.sp,mV v.sp)} sl m) rfl rfl rfl λw h=>?_);refine ac (az h b (rL m0 c0 {v with sp:=gu v.sp ao flight} sl m) rfl rfl (by unfold gu;rw[aC c];rfl) λw h=>⟨trivial,h.aG⟩)
   ·have c:¬flight=0:=bV;refine⟨trivial,?_⟩;have e:gu v.sp ao flight=v.sp:=(by unfold gu;rw[ay c]);rw[e];exact h
theorem GV(b:Nat)(m0 c0:Int)(v:Sk)(sl:Sl)(m:Nat)(n:Int)(hb:qE v.bf)(hl:bL v.bf=1073741824)(hw:bW v.bf≤1152921504606846976)(hn:n<9223372036854775808):bm (WD (some ⟨b,3⟩) n)
  (ah b (rL m0 c0 v sl m)) (λr=>bh (r=(Ad v.bf n).1) (ah b (rL m0 c0 {v with bf:=(Ad v.bf n).2} sl m))):=
 br λw0 S R h=>by
  have h:=h.le (aF _);have u1:=hb.u;have u2:=hb.un;have u3:=hb.nw;have u4:=hb.l;rw[hl]at u4;refine ae (λc=>?_) λc=>?_
  ·have c:n<1:=bJ c;have e:Ad v.bf n=(1,v.bf):=(by unfold Ad;rw[aC c]);rw[e];exact au.aE rfl h.aG
  ·have c:¬n<1:=bQ c;refine aH h λw h=>ac (ac (ac (aj (x:=(1073741824:Int)) h rfl (aj (x:=bW v.bf) h rfl (aj (x:=bU v.bf) h rfl ?_)))));have k:(if(if(1073741824:Int)<(1073741824:Int)then(1073741824:Int)else(1073741824:Int))>(0:Int)then(if(1073741824:Int)<(1073741824:Int)then(1073741824:Int)else(1073741824:Int))else(0:Int))=1073741824:=(by decide);rw[k,wu (n:=n) (by omega) (by omega),wu (n:=1073741824) (by omega) (by omega),wu (n:=bW v.bf-bU v.bf) (by omega) (by omega),wu (n:=1073741824-(bW v.bf-bU v.bf)) (by omega) (by omega)];refine ae (λc2=>?_) λc2=>?_
   ·have c2:n>1073741824-(bW v.bf-bU v.bf):=bJ c2;have e:Ad v.bf n=(5,v.bf):=(by unfold Ad;rw[ay c,hl,aC c2]);rw[e];exact au.aE rfl h.aG
   ·have c2:¬n>1073741824-(bW v.bf-bU v.bf):=bQ c2;have e:Ad v.bf n=(0,(bW v.bf+n,bN v.bf,bU v.bf,bL v.bf)):=(by unfold Ad;rw[ay c,hl,ay c2]);rw[e];refine ac (aj (x:=bW v.bf) h rfl (ac (az h b (rL m0 c0 {v with bf:=(bW v.bf+n,bN v.bf,bU v.bf,bL v.bf)} sl m) rfl rfl ?_ λw h=>?_)))
    ·rw[wu (n:=bW v.bf+n) (by omega) (by omega)];rfl
    ·exact au.aE rfl h.aG
end JU

namespace UF
open bB bi dY fk dZ JU
theorem JH(b:Nat)(m0 c0:Int)(v:Sk)(sl:Sl)(m:Nat)(most:Int)(hb:qE v.bf)(hm:most<9223372036854775808):bm (SH (some ⟨b,3⟩) most)
  (ah b (rL m0 c0 v sl m)) (λr=>bh (r=(kM v.bf most).1) (ah b (rL m0 c0 {v with bf:=(kM v.bf most).2} sl m))):=
 br λw0 S R h=>by
  have u1:=hb.u;have u2:=hb.un;have u3:=hb.nw;have u4:=hb.l;have u5:=hb.w;have u6:=hb.ll;refine aA (h.le (aF _)) λn1 w h=>?_;have h:au w0 S R w (ah n1 [.int .u64 0,.int .u64 0]^ah b (rL m0 c0 v sl m)^aT):=h.aG;refine aK h (λ_=>ah n1 [.int .u64 0,.int .u64 0]^ah b (rL m0 c0 v sl m)^aT) (λ_=>most≥1∧bW v.bf-bN v.bf≠0) (λ_ w hc h=>?_) ?_
  ·have e:kM v.bf most=(((bN v.bf,bN v.bf+min (bW v.bf-bN v.bf) most),true),(bW v.bf,bN v.bf+min (bW v.bf-bN v.bf) most,bU v.bf,bL v.bf)):=(by unfold kM;rw[aC hc]);rw[e];obtain⟨X,hX⟩:∃X,X=bN v.bf+min (bW v.bf-bN v.bf) most:=⟨_,rfl⟩;rw[←hX];have e2:IntKind.u64.wrap (bN v.bf+(if(IntKind.u64.wrap (bW v.bf-bN v.bf))<(IntKind.u64.wrap most)then(IntKind.u64.wrap (bW v.bf-bN v.bf))else(IntKind.u64.wrap most)))=X:=by
    rw[wu (n:=bW v.bf-bN v.bf) (by omega) (by omega),wu (n:=most) (by omega) (by omega),hX];by_cases c:bW v.bf-bN v.bf<most
    ·rw[aC c,wu (by omega) (by omega)];omega
    ·rw[ay c,wu (by omega) (by omega)];omega
   refine aH h λw h=>ac (ac (ac (ac (aj (x:=bN v.bf) h rfl (aj (x:=bN v.bf) h rfl (aj (x:=bW v.bf) h rfl (aj (x:=bN v.bf) h rfl ?_)))))));refine aA h λn18 w h=>aI h rfl (aI h rfl (aI h rfl (aI h rfl ?_)));rw[e2];refine az h n18 (Ks.mk [.int .u64,.int .u64] (bN v.bf,X)) rfl rfl rfl λw h=>?_;refine aj (x:=X) h rfl (ac (az h b (rL m0 c0 {v with bf:=(bW v.bf,X,bU v.bf,bL v.bf)} sl m) rfl rfl rfl λw h=>?_));refine ar (b:=n18) (x:=((bN v.bf,X):Ks.T [.int .u64,.int .u64])) h rfl (az h n1 (Ks.mk [.int .u64,.int .u64] (bN v.bf,X)) rfl rfl rfl λw h=>?_);refine ar (b:=n1) (x:=((bN v.bf,X):Ks.T [.int .u64,.int .u64])) h rfl ?_;exact au.aE rfl h.aG
  ·refine aH h λw h=>ae (λc=>?_) λc=>?_
   ·have c:most<1:=bJ c;have e:kM v.bf most=(((0,0),false),v.bf):=(by unfold kM;rw[ay (by omega)]);rw[e];refine aw h (by rfl) λw h=>ar (b:=n1) (x:=((0,0):Ks.T [.int .u64,.int .u64])) h rfl ?_;exact au.aE rfl h.aG
   ·have c:¬most<1:=bQ c;refine ac (ac (aj (x:=bN v.bf) h rfl (aj (x:=bW v.bf) h rfl (ae (λc2=>?_) λc2=>?_))))
    ·have c2:bN v.bf=bW v.bf:=gk;have e:kM v.bf most=(((0,0),false),v.bf):=(by unfold kM;rw[ay (by omega)]);rw[e];refine aw h (by rfl) λw h=>ar (b:=n1) (x:=((0,0):Ks.T [.int .u64,.int .u64])) h rfl ?_;exact au.aE rfl h.aG
    ·have c2:¬bN v.bf=bW v.bf:=gk;exact⟨⟨by omega,by omega⟩,h⟩
end UF

namespace Qv
open bB bi dY fk dZ JU
theorem GU(b:Nat)(m0 c0:Int)(v:Sk)(sl:Sl)(m:Nat)(ao be flight:Int)(hs:oY v.sp)(hn:U ao):bm (Oo (some ⟨b,9⟩) ao be flight)
  (ah b (rL m0 c0 v sl m)) (λr=>bh (r=(fN v.sp ao be flight).1) (ah b (rL m0 c0 {v with sp:=(fN v.sp ao be flight).2} sl m))):=
 br λw0 S R h=>by
  refine aA (h.le (aF _)) λn1 w h=>ac (aj (x:=pD v.sp) h rfl (aA h λn4 w h=>az h n4 (Ks.mk aO (ao,pD v.sp,0,0,0,0,be,flight,false)) rfl rfl rfl λw h=>?_));obtain⟨X,hX⟩:∃X:Ks.T aO,X=(fN v.sp ao be flight).1:=⟨_,rfl⟩;have h:au w0 S R w (ah n4 (Ks.mk aO (ao,pD v.sp,0,0,0,0,be,flight,false))^ah n1 [.int .u64 0,.int .u64 0,.int .u64 0,.int .u64 0,.int .u64 0,.int .u64 0,.int .u64 0,.int .u64 0,.bool false]^ah b (rL m0 c0 v sl m)^aT):=h.aG;refine aK h (λ_=>ah n4 (Ks.mk aO X)^ah n1 [.int .u64 0,.int .u64 0,.int .u64 0,.int .u64 0,.int .u64 0,.int .u64 0,.int .u64 0,.int .u64 0,.bool false]^ah b (rL m0 c0 v sl m)^aT) (λ_=>True) (λ_ w _ h=>?_) ?_
  ·refine ac (az h b (rL m0 c0 {v with sp:=(pD v.sp,pT v.sp,pF v.sp,pL v.sp,false,pG v.sp,od v.sp,mW v.sp,nr v.sp,mA v.sp,mV v.sp)} sl m) rfl rfl rfl λw h=>?_);refine ac (az h b (rL m0 c0 {v with sp:=(pD v.sp,pT v.sp,pF v.sp,pL v.sp,false,0,od v.sp,mW v.sp,nr v.sp,mA v.sp,mV v.sp)} sl m) rfl rfl rfl λw h=>?_);refine ac (az h b (rL m0 c0 {v with sp:=(pD v.sp,pT v.sp,pF v.sp,pL v.sp,false,0,0,mW v.sp,nr v.sp,mA v.sp,mV v.sp)} sl m) rfl rfl rfl λw h=>?_);refine ac (az h b (rL m0 c0 {v with sp:=(pD v.sp,pT v.sp,pF v.sp,pL v.sp,false,0,0,0,nr v.sp,mA v.sp,mV v.sp)} sl m) rfl rfl rfl λw h=>?_);refine ac (az h b (rL m0 c0 {v with sp:=(pD v.sp,pT v.sp,pF v.sp,pL v.sp,false,0,0,0,nr v.sp,0,mV v.sp)} sl m) rfl rfl rfl λw h=>?_);refine ac (az h b (rL m0 c0 {v with sp:=(pD v.sp,pT v.sp,pF v.sp,pL v.sp,false,0,0,0,nr v.sp,0,0)} sl m) rfl rfl rfl λw h=>?_);refine ac (az h b (rL m0 c0 {v with sp:=(fN v.sp ao be flight).2} sl m) rfl rfl rfl λw h=>?_);refine ar (b:=n4) (x:=X) h rfl (az h n1 (Ks.mk aO X) rfl rfl rfl λw h=>ar (b:=n1) (x:=X) h rfl ?_);exact au.aE hX h.aG
  ·refine ac (aj (x:=pH v.sp) h rfl (ae (λc=>?_) λc=>?_))
   ·have e:X=(ao,pD v.sp,od v.sp,jg (mA v.sp) (dF ao (mW v.sp)),mV v.sp,pG v.sp,be,flight,nr v.sp):=(by rw[hX];unfold fN;rw[aC c]);refine aH h λw h=>ac (ac (ac (ac (aj (x:=pG v.sp) h rfl (aj (x:=od v.sp) h rfl (aj (x:=nr v.sp) h rfl (aj (x:=mV v.sp) h rfl ?_)))))));refine az h n4 (Ks.mk aO (ao,pD v.sp,0,0,0,pG v.sp,be,flight,false)) rfl rfl rfl λw h=>aI h rfl (aI h rfl (aI h rfl ?_));refine az h n4 (Ks.mk aO (ao,pD v.sp,od v.sp,0,0,pG v.sp,be,flight,false)) rfl rfl rfl λw h=>aI h rfl (aI h rfl ?_);refine az h n4 (Ks.mk aO (ao,pD v.sp,od v.sp,0,0,pG v.sp,be,flight,nr v.sp)) rfl rfl rfl λw h=>aI h rfl ?_;refine az h n4 (Ks.mk aO (ao,pD v.sp,od v.sp,0,mV v.sp,pG v.sp,be,flight,nr v.sp)) rfl rfl rfl λw h=>?_;refine aH h λw h=>ac (ac (aj (x:=mA v.sp) h rfl (aj (x:=mW v.sp) h rfl ?_)));refine af (jI ao (mW v.sp) hn hs.pt) (h.le ((aF _).trans (aV _ _))) λr w h=>?_;obtain⟨hr,h⟩:=h.aB;rw[hr];refine aI h rfl ?_;have el:(if dF ao (mW v.sp)>mA v.sp then dF ao (mW v.sp)else mA v.sp)=jg (mA v.sp) (dF ao (mW v.sp)):=by
     have hu:=hs.si;unfold U at hu;unfold jg
     (repeat' split)<;>omega
    rw[el];refine az h n4 (Ks.mk aO X) rfl rfl (by rw[e];rfl) λw h=>⟨trivial,h.aG⟩
   ·refine⟨trivial,?_⟩;have e:X=(ao,pD v.sp,0,0,0,0,be,flight,false):=by rw[hX];unfold fN;rw[ay (by rw[c];simp)]
    rw[e];exact h
end Qv

namespace Re
open bB bi dY fk dZ lj JU
theorem EA(b:Nat)(m0 c0:Int)(v:Sk)(sl:Sl)(m:Nat)(ao n:Int)(sn:Sn)(hs:oY v.sp)(hn:U ao)(hU:U n)(hsn:Dc sn):bm (RS (some ⟨b,9⟩) ao n sn)
  (ah b (rL m0 c0 v sl m)) (λ_=>ah b (rL m0 c0 {v with sp:=xp v.sp ao n sn} sl m)):=
 br λw0 S R h=>by
  obtain⟨D,hD⟩:∃D,D=bA (pD v.sp) n:=⟨_,rfl⟩;obtain⟨G,hG⟩:∃G,G=bA (pG v.sp) n:=⟨_,rfl⟩;obtain⟨L,hL⟩:∃L,L=if D>pL v.sp then 0 else pL v.sp:=⟨_,rfl⟩
  refine aA (h.le (aF _)) λn1 w h=>ac (aj (x:=pD v.sp) h rfl (af (fz (pD v.sp) n hs.d hU) (h.le ((aF _).trans (aV _ _))) λr w h=>?_));obtain⟨hr,h⟩:=h.aB;rw[hr,←hD];refine ac (az h b (rL m0 c0 {v with sp:=(D,pT v.sp,pF v.sp,pL v.sp,pH v.sp,pG v.sp,od v.sp,mW v.sp,nr v.sp,mA v.sp,mV v.sp)} sl m) rfl rfl rfl λw h=>?_);refine ac (az h b (rL m0 c0 {v with sp:=(D,ao,pF v.sp,pL v.sp,pH v.sp,pG v.sp,od v.sp,mW v.sp,nr v.sp,mA v.sp,mV v.sp)} sl m) rfl rfl rfl λw h=>?_);have h:au w0 S R w (ah b (rL m0 c0 {v with sp:=(D,ao,pF v.sp,pL v.sp,pH v.sp,pG v.sp,od v.sp,mW v.sp,nr v.sp,mA v.sp,mV v.sp)} sl m)^ah n1 (Ks.mk bZ sn)^aT):=h.aG;refine aK h (λ_=>ah b (rL m0 c0 {v with sp:=(D,ao,pF v.sp,L,pH v.sp,pG v.sp,od v.sp,mW v.sp,nr v.sp,mA v.sp,mV v.sp)} sl m)^ah n1 (Ks.mk bZ sn)^aT) (λ_=>True) (λ_ w _ h=>?_) ?_;rotate_left
  ·refine aH h λw h=>ac (ac (aj (x:=D) h rfl (aj (x:=pL v.sp) h rfl (ae (λc=>?_) λc=>?_))))
   ·have c:D>pL v.sp:=bJ c;refine ac (az h b (rL m0 c0 {v with sp:=(D,ao,pF v.sp,L,pH v.sp,pG v.sp,od v.sp,mW v.sp,nr v.sp,mA v.sp,mV v.sp)} sl m) rfl rfl (by rw[hL,aC c];rfl) λw h=>⟨trivial,h.aG⟩)
   ·have c:¬D>pL v.sp:=bQ c;refine⟨trivial,?_⟩;rw[hL,ay c];exact h
  refine ac (aj (x:=pG v.sp) h rfl (af (fz (pG v.sp) n hs.g hU) (h.le ((aF _).trans (aV _ _))) λr w h=>?_));obtain⟨hr,h⟩:=h.aB;rw[hr,←hG];refine ac (az h b (rL m0 c0 {v with sp:=(D,ao,pF v.sp,L,pH v.sp,G,od v.sp,mW v.sp,nr v.sp,mA v.sp,mV v.sp)} sl m) rfl rfl rfl λw h=>?_);have h:au w0 S R w (ah b (rL m0 c0 {v with sp:=(D,ao,pF v.sp,L,pH v.sp,G,od v.sp,mW v.sp,nr v.sp,mA v.sp,mV v.sp)} sl m)^ah n1 (Ks.mk bZ sn)^aT):=h.aG;obtain⟨Z,hZ⟩:∃Z:Sp,Z=if N2 v.sp sn then(D,ao,sn.1,L,pH v.sp,G,sn.2.1,sn.2.2.1,sn.2.2.2.2,dF sn.1 sn.2.2.2.1,dF ao sn.1)else(D,ao,pF v.sp,L,pH v.sp,G,od v.sp,mW v.sp,nr v.sp,mA v.sp,mV v.sp):=⟨_,rfl⟩
  refine aK h (λ_=>ah b (rL m0 c0 {v with sp:=Z} sl m)^ah n1 (Ks.mk bZ sn)^aT) (λ_=>True) (λ_ w _ h=>?_) ?_
  ·refine ac (az h b (rL m0 c0 {v with sp:=xp v.sp ao n sn} sl m) rfl rfl ?_ λw h=>h.bk);unfold xp;rw[←hD,←hG,←hL];by_cases c:N2 v.sp sn=true
   ·rw[aC c];rw[aC c]at hZ;rw[hZ];rfl
   ·rw[ay c];rw[ay c]at hZ;rw[hZ];rfl
  ·refine aK h (λ_=>ah b (rL m0 c0 {v with sp:=(D,ao,pF v.sp,L,pH v.sp,G,od v.sp,mW v.sp,nr v.sp,mA v.sp,mV v.sp)} sl m)^ah n1 (Ks.mk bZ sn)^aT) (λz:Bool=>z=N2 v.sp sn) (λz w hz h=>?_) ?_;rotate_left
   ·refine aH h λw h=>ac (aj (x:=pH v.sp) h rfl (ae (λc=>?_) λc=>?_))
    ·refine⟨?_,h⟩;unfold N2;rw[c];rfl
    ·refine aj (x:=sn.2.1) h rfl (ac (aj (x:=od v.sp) h rfl ⟨?_,h⟩));unfold N2;rw[c];rfl
   rw[hz];refine ae (λc=>?_) λc=>?_
   ·rw[aC c]at hZ;refine aH h λw h=>aj (x:=sn.2.1) h rfl (aj (x:=sn.2.2.1) h rfl (aj (x:=sn.2.2.2.2) h rfl ?_));refine ac (az h b (rL m0 c0 {v with sp:=(D,ao,pF v.sp,L,pH v.sp,G,sn.2.1,mW v.sp,nr v.sp,mA v.sp,mV v.sp)} sl m) rfl rfl rfl λw h=>aI h rfl (aI h rfl ?_));refine ac (az h b (rL m0 c0 {v with sp:=(D,ao,pF v.sp,L,pH v.sp,G,sn.2.1,sn.2.2.1,nr v.sp,mA v.sp,mV v.sp)} sl m) rfl rfl rfl λw h=>aI h rfl ?_);refine ac (az h b (rL m0 c0 {v with sp:=(D,ao,pF v.sp,L,pH v.sp,G,sn.2.1,sn.2.2.1,sn.2.2.2.2,mA v.sp,mV v.sp)} sl m) rfl rfl rfl λw h=>?_);refine aH h λw h=>aj (x:=sn.1) h rfl (aj (x:=sn.2.2.2.1) h rfl (aj (x:=sn.1) h rfl ?_));refine af (jI sn.1 sn.2.2.2.1 hsn.a hsn.d) (h.le ((aF _).trans (aV _ _))) λr w h=>?_;obtain⟨hr,h⟩:=h.aB;rw[hr];refine aI h rfl (af (jI ao sn.1 hn hsn.a) (h.le ((aF _).trans (aV _ _))) λr w h=>?_);obtain⟨hr,h⟩:=h.aB;rw[hr];refine ac (az h b (rL m0 c0 {v with sp:=(D,ao,pF v.sp,L,pH v.sp,G,sn.2.1,sn.2.2.1,sn.2.2.2.2,dF sn.1 sn.2.2.2.1,mV v.sp)} sl m) rfl rfl rfl λw h=>?_);refine ac (az h b (rL m0 c0 {v with sp:=(D,ao,pF v.sp,L,pH v.sp,G,sn.2.1,sn.2.2.1,sn.2.2.2.2,dF sn.1 sn.2.2.2.1,dF ao sn.1)} sl m) rfl rfl rfl λw h=>?_);refine aj (x:=sn.1) h rfl (ac (az h b (rL m0 c0 {v with sp:=Z} sl m) rfl rfl (by rw[hZ];rfl) λw h=>⟨trivial,h.aG⟩))
   ·rw[ay (by rw[c];simp)]at hZ;rw[hZ];exact⟨trivial,h⟩
end Re

end Go.X
