/- Contracts and plain facts: MqP MqD MqL MqR. -/
import Derived.Test.YtaimlgfepkopkaaGreatB13
set_option linter.all false
namespace Go.X
open Go.Proofs
namespace U3
open bB bi fg lK lV eS z9 Bw Ae qk E2 ES Hd ff EW E4 NM Qu E5 Rc NX UD
open dZ (Sk bY b_ eh ie ii cK bp dI)
open Io (kK Bm)
open W4 (Eu)
open Rf (pE xK HX Bq)
open UG (Bt vE)
open lL (oH)
theorem Pe(l:Nat→Ct)(o:Ou)(a:List Sg):(cV l o a).1=⟨o.oa,o.dr++a,(cV l o a).1.ft,o.wd⟩:=by
 induction a generalizing l o with
 |nil=>show o=⟨o.oa,o.dr++[],o.ft,o.wd⟩;rw[rM]
 |cons x a ih=>
  show(cV (cd l o x 5).2 (cd l o x 5).1 a).1=⟨o.oa,o.dr++x::a,(cV (cd l o x 5).2 (cd l o x 5).1 a).1.ft,o.wd⟩;rw[ih];show(⟨o.oa,(o.dr++[x])++a,_,o.wd⟩:Ou)=_;rw[kR];rfl
theorem O7{v:Qm}(hv:iQ v)(i:Nat):∀s∈(cw v (i:Int)).1,sK s=(i:Int):=by
 intro s hs;unfold cw at hs;split at hs
 ·cases hs
 ·rw[eR]at hs;split at hs
  ·cases hs
  ·rename_i f hf;exact((hv.fl i f hf).2.sg s hs).1
theorem CF(b:Nat)(kk:Int)(v:Mc)(hv:iH kk v)(i:Nat)(hi:i<8):bm (XW (some ⟨b,0⟩) (i:Int)) (cY b v) (λr=>cY b (nW v i eQ).2^oc r (nW v i eQ).1):=
 br λw0 S R h=>by
  obtain⟨k,p,⟨hk,hqc⟩,h⟩:=(h.le (aF _)).cY b;have h:au w0 S R w0 (tA p v.so i^bP b ⟨v.ao,k,p⟩ v.q^aT):=by
   cases hs:v.so i with
   |none=>exact(h.PG p v.so hi hs).2.aG
   |some x=>obtain⟨ap,m0,_,h⟩:=h.A9 p v.so hi hs;exact h.drop.aG
  refine aA h λn1 w h=>aA h λn2 w h=>ac ⟨by omega,?_⟩;rw[eR];refine Q7 (b:=b) (X:=⟨v.ao,k,p⟩) (q:=v.q) h hi none λw h=>?_;have h:=h.X3 p v.so hi (gy p i none) (gy v.so i none) (λj hj=>jM p none hj) (λj hj=>jM v.so none hj) (e_ p i none) (e_ v.so i none);refine ac (af (GB b ⟨v.ao,k,gy p i none⟩ v.q hv.q (i:Int)) h λr w h=>?_);have hck:=O7 hv.q i;obtain⟨cl,hcl⟩:∃cl,cl=(cw v.q (i:Int)).1:=⟨_,rfl⟩;have hcn:cl.length≤512:=by rw[hcl];exact vS hv.q i
  have hrl:=(h.rd (s:=r)).2;rw[←hcl]at hrl h hck;refine az h n2 [.sl ⟨none,0,0⟩,.sl r,.sl ⟨none,0,0⟩,.int .u64 0] rfl rfl rfl λw h=>?_;have h:=h.nil qk.KI;have h:=h.eB (s:=⟨none,0,0⟩) (K:=qk.KI) (ys:=(cV v.l eQ (cl.take (0:Int).toNat)).1.ft) rfl;have h:au w0 S R w (aP ⟨none,0,0⟩ qk.KI (cV v.l eQ (cl.take (0:Int).toNat)).1.ft^ah n2 [.sl ⟨none,0,0⟩,.sl r,.sl ⟨none,0,0⟩,.int .u64 0]^bP b ⟨v.ao,k,gy p i none⟩ (cw v.q (i:Int)).2^nv (gy p i none) (gy v.so i none)^aP r KS cl^ah n1 zO^aT):=h.aG;refine gn (λ(y:Int) (x:(Nat→Ct)×Sl)=>aP x.2 qk.KI (cV v.l eQ (cl.take y.toNat)).1.ft^ah n2 [.sl ⟨none,0,0⟩,.sl r,.sl x.2,.int .u64 0]^bP b ⟨v.ao,x.1,gy p i none⟩ (cw v.q (i:Int)).2^nv (gy p i none) (gy v.so i none)^aP r KS cl^ah n1 zO^aT) (λ(y:Int) x=>(0≤y∧y≤cl.length)∧KL x.1 (cV v.l eQ (cl.take y.toNat)).2) (λ(y:Int) _=>(cl.length-y.toNat)) (k,⟨none,0,0⟩) h ⟨⟨by decide,by omega⟩,hk⟩ ?_;rintro K (y:Int) ⟨k1,s3⟩ w ⟨⟨h0,h1⟩,hk1⟩ h next
  dsimp only at hk1 h;refine aj (x:=r) h rfl (ae (λc=>?_) λc=>?_)
  ·have c:y<((r.len:Nat):Int):=bJ c;have hy:y.toNat<cl.length:=(by omega);have hwi:IntKind.i64.wrap (y+1)=y+1:=wi (by omega) (by omega);have hin:(y+1).toNat=y.toNat+1:=(by omega);obtain⟨s,hs⟩:∃s,cl[y.toNat]?=some s:=⟨_,jG hy⟩;obtain⟨d1,d2⟩:=vW v.l eQ (cl.take y.toNat);have dt:(cl.take y.toNat).length≤512:=(by rw[fM];omega);have e:cV v.l eQ (cl.take (y+1).toNat)=cd (cV v.l eQ (cl.take y.toNat)).2 (cV v.l eQ (cl.take y.toNat)).1 s 5:=by
    rw[hin,lF,hs];exact AK _ _ _ _
   refine ac (af (sI b ⟨v.ao,k1,gy p i none⟩ (cw v.q (i:Int)).2 (i:Int) 5) h λ_ w h=>?_);refine aj (x:=s3) h rfl (aA h λn12 w h=>?_);have h:=h.cT n12 qk.KI [5] rfl (by simp);have h:au w0 S R w (aP ⟨some ⟨n12,0⟩,1,1⟩ qk.KI [5]^_):=h;have h0l:eQ.ft.length=0:=rfl;refine dE (K:=qk.KI) (s:=s3) (xs:=(cV v.l eQ (cl.take y.toNat)).1.ft) h rfl (by rw[d2];show eQ.ft.length+_+1≤_;omega) λt3 w _ h=>?_;refine az h n2 [.sl ⟨none,0,0⟩,.sl r,.sl t3,.int .u64 0] rfl rfl rfl λw h=>?_;have h:=h.eB (s:=t3) (K:=qk.KI) (ys:=(cV v.l eQ (cl.take (y+1).toNat)).1.ft) (by rw[e];rfl);rw[hwi];refine next (y+1) (mU k1 (i:Int) 5,t3) w ⟨⟨by omega,by omega⟩,?_⟩ h.aG (by show cl.length-(y+1).toNat<cl.length-y.toNat;omega)
   have hks:=hk1.note (i:Int) 5;rw[e];show KL _ (fT _ (sK s) 5).2;rw[hck s (kQ hs)];exact hks
  ·have c:¬y<((r.len:Nat):Int):=bQ c;rw[kp (by omega)]at h hk1;refine ar (b:=n2) (x:=((⟨none,0,0⟩,r,s3,0):Ks.T oe)) h rfl (aw h (by rfl) λw h=>ar (b:=n1) (x:=((⟨none,0,0⟩,r,s3,0):Ks.T oe)) h rfl ?_);have h:=h.nil KS;have h:=h.rG (⟨none,0,0⟩,r,s3,0) ⟨[],cl,(cV v.l eQ cl).1.ft,0⟩ rfl;have e2:(cV v.l eQ cl).1=⟨[],cl,(cV v.l eQ cl).1.ft,0⟩:=Pe v.l eQ cl;have h:=h.gm b k1 (gy p i none) {v with so:=gy v.so i none,q:=(cw v.q (i:Int)).2,l:=(cV v.l eQ cl).2} ⟨hk1,(O6 v.q i).trans hqc⟩;rw[show nW v i eQ=(⟨[],cl,(cV v.l eQ cl).1.ft,0⟩,{v with so:=gy v.so i none,q:=(cw v.q (i:Int)).2,l:=(cV v.l eQ cl).2}) by unfold nW;rw[←hcl,←e2]];exact h.aG
theorem Un{m0 c0:Int}{x:Sk}(h:pE m0 c0 x)(ao:Int)(d:Dd)(xs:List (Int×Int)):pE m0 c0 (dn x ao d xs).2:=by
 unfold dn;split
 ·exact h.write _
 ·split
  ·exact h.Dh _ _ _
  ·split
   ·exact h.xr _
   ·exact h.done _
theorem VO(id:Int)(c:Cf):pE (eF c) (dM c) (ii id (eF c) (dM c)):=⟨rfl,rfl,rfl⟩
theorem JG(b:Nat)(kk:Int)(v:Mc)(hv:iH kk v)(hkk:kk<1000000)(d:Dd)(hd:JT d)(xs:List (Ks.T KR))(hxl:xs.length≤4294967296):
  bm (XD (some ⟨b,0⟩) d) (cY b v^ba (dR d) KR xs) (λr=>bh (r.2=(iM v d xs eQ).1) (cY b (iM v d xs eQ).2.2^oc r.1 (iM v d xs eQ).2.1)):=
 br λw0 S R h=>by
  refine aA (h.le (aF _)) λn1 w h=>aA h λn2 w h=>?_;have h:au w0 S R w (ah n1 (Ks.mk KD d)^ah n2 zO^cY b v^ba (dR d) KR xs^aT):=h.aG;have done:∀{w:World} (e:Int),iM v d xs eQ=(e,eQ,v)→au w0 S R w (ah n2 zO^cY b v^aT)→(st ⟨n2,0⟩ zO<|ld oe ⟨n2,0⟩ λ(x:Ks.T oe)=>(λ(r:Ks.T oe×Int) w=>au w0 S R w (bh (r.2=(iM v d xs eQ).1) (cY b (iM v d xs eQ).2.2^oc r.1 (iM v d xs eQ).2.1))) (x,e)) w:=by
   intro w e he h;rw[he];refine aw h (by rfl) λw h=>ar (b:=n2) (x:=((⟨none,0,0⟩,⟨none,0,0⟩,⟨none,0,0⟩,0):Ks.T oe)) h rfl ?_;have h:=h.nil KS;have h:=h.nil KS;have h:=h.nil qk.KI;have h:=h.rG (⟨none,0,0⟩,⟨none,0,0⟩,⟨none,0,0⟩,0) eQ rfl;exact au.aE rfl h.aG
  refine aK h (λ_=>ah n1 (Ks.mk KD d)^ah n2 zO^cY b v^ba (dR d) KR xs^aT) (λ_=>0≤dS d∧dS d<8) (λ_ w c h=>?_) ?_;rotate_left
  ·have bad:¬(0≤dS d∧dS d<8)→iM v d xs eQ=(8,eQ,v):=λc=>by unfold iM;rw[aC c]
   refine aj (x:=dS d) h rfl (ae (λc=>?_) λc=>?_)
   ·have c:dS d<0:=bJ c;exact done 8 (bad (by omega)) h.aG
   ·have c:¬dS d<0:=bQ c;refine aj (x:=dS d) h rfl (ae (λc2=>?_) λc2=>?_)
    ·have c2:dS d≥8:=bJ c2;exact done 8 (bad (by omega)) h.aG
    ·have c2:¬dS d≥8:=bQ c2;exact⟨by omega,h⟩
  obtain⟨i,hi⟩:∃i:Nat,dS d=(i:Int):=⟨(dS d).toNat,by omega⟩;have hi8:i<8:=by omega
  have eit:((i:Nat):Int).toNat=i:=eR i;have hone:iM v d xs eQ=match v.so i with
    |none=>if dK d=1 then(0,eQ,{v with so:=gy v.so i (some (ii (i:Int) (eF v.c) (dM v.c)))})else(10,eQ,v)
    |some x=>if dK d=1 then(9,eQ,v)else if dK d=9 then(0,(nW v i eQ).1,(nW v i eQ).2)
     else if(dn x v.ao d xs).1=0 then(0,(lO v i (dn x v.ao d xs).2 eQ).1,(lO v i (dn x v.ao d xs).2 eQ).2)
     else((dn x v.ao d xs).1,eQ,{v with so:=gy v.so i (some (dn x v.ao d xs).2)}):=by
   unfold iM;first
    |(rw[ay (λhh=>hh c),hi,eit];cases v.so i<;>rfl)
    |rw[ay (λhh=>hh c),hi,eit]
  refine aH h λw h=>?_;obtain⟨k,p,⟨hk,hqc⟩,h⟩:=h.cY b;have hsn:=TT h p v.so hi8;refine aj (x:=dS d) h rfl (ac ⟨c,?_⟩);rw[hi,eit];refine z7 (b:=b) (X:=⟨v.ao,k,p⟩) (q:=v.q) h hi8 (aj (x:=dK d) h rfl ?_);dsimp only;refine ae (λc1=>?_) λc1=>?_
  ·have c1:dK d=1:=(by simpa using c1);cases hs:v.so i with
   |some x=>
    rw[hs]at hsn hone;dsimp only at hone;rw[aC c1]at hone;refine ae (λ_=>?_) λcc=>(by rw[hsn]at cc;simp at cc);have h:=h.gm b k p v ⟨hk,hqc⟩;exact done 9 hone h.aG
   |none=>
    rw[hs]at hsn hone;dsimp only at hone;rw[aC c1]at hone;rw[hone];refine ae (λcc=>(by rw[hsn]at cc;simp at cc)) λ_=>?_;refine aH h λw h=>aj (x:=dS d) h rfl (aj (x:=dS d) h rfl (ac (ac (Uu (b:=b) (X:=⟨v.ao,k,p⟩) (q:=v.q) h ?_))));rw[hi,hqc];refine af (Bq (i:Int) v.c (by have:=hv.c.bn;show eF v.c<_;omega)) (h.le ((aF _).trans (aV _ _))) λr w h=>?_;obtain⟨ap,h⟩:=h.lX;obtain⟨hr,h⟩:=h.aB;rw[hr];have h:au w0 S R w (kK ap (eF v.c) (dM v.c) (ii (i:Int) (eF v.c) (dM v.c))^ah n1 (Ks.mk KD d)^ah n2 zO^bP b ⟨v.ao,k,p⟩ v.q^nv p v.so^aT):=h.aG;have h:au w0 S R w (kK ap (eF v.c) (ii (i:Int) (eF v.c) (dM v.c)).cap (ii (i:Int) (eF v.c) (dM v.c))^ah n1 (Ks.mk KD d)^ah n2 zO^bP b ⟨v.ao,k,p⟩ v.q^nv p v.so^aT):=h;refine aI h (by show [Lf.int IntKind.i64 (dS d)]=_;rw[hi];rfl) ⟨by omega,?_⟩;rw[eit];obtain⟨_,h⟩:=h.PG p v.so hi8 hs;refine Q7 (b:=b) (X:=⟨v.ao,k,p⟩) (q:=v.q) h hi8 (some ⟨ap,0⟩) λw h=>?_;have h:=h.I5 p v.so hi8 (gy p i (some ⟨ap,0⟩)) (gy v.so i (some (ii (i:Int) (eF v.c) (dM v.c)))) ap (eF v.c) (ii (i:Int) (eF v.c) (dM v.c)) (λj hj=>jM p _ hj) (λj hj=>jM v.so _ hj) (e_ p i _) (e_ v.so i _) (VO (i:Int) v.c);have h:=h.gm b k (gy p i (some ⟨ap,0⟩)) {v with so:=gy v.so i (some (ii (i:Int) (eF v.c) (dM v.c)))} ⟨hk,hqc⟩;refine aw h (by rfl) λw h=>ar (b:=n2) (x:=((⟨none,0,0⟩,⟨none,0,0⟩,⟨none,0,0⟩,0):Ks.T oe)) h rfl ?_;have h:=h.nil KS;have h:=h.nil KS;have h:=h.nil qk.KI;have h:=h.rG (⟨none,0,0⟩,⟨none,0,0⟩,⟨none,0,0⟩,0) eQ rfl;exact au.aE rfl h.aG
  have c1:¬dK d=1:=by simpa using c1
  cases hs:v.so i with
  |none=>
   rw[hs]at hsn hone;dsimp only at hone;rw[ay c1]at hone;refine ae (λ_=>?_) λcc=>(by rw[hsn]at cc;simp at cc);have h:=h.gm b k p v ⟨hk,hqc⟩;exact done 10 hone h.aG
  |some x=>
   obtain⟨hx,hid,_⟩:=hv.so i x hs;rw[hs]at hsn hone;dsimp only at hone;rw[ay c1]at hone;refine ae (λcc=>(by rw[hsn]at cc;simp at cc)) λ_=>aj (x:=dK d) h rfl (ae (λc9=>?_) λc9=>?_)
   ·have c9:dK d=9:=(by simpa using c9);rw[aC c9]at hone;rw[hone];have h:=h.gm b k p v ⟨hk,hqc⟩;refine aj (x:=dS d) h rfl ?_;rw[hi];refine af (CF b kk v hv i hi8) h λr w h=>?_;refine aw h (by rfl) λw h=>ar (b:=n2) (x:=(r:Ks.T oe)) h rfl ?_;exact au.aE rfl h.aG
   have c9:¬dK d=9:=(by simpa using c9);rw[ay c9]at hone;obtain⟨ap,m0,⟨hp,hr⟩,h⟩:=h.A9 p v.so hi8 hs;obtain⟨hx2,hid2⟩:=qh hx hkk hv.un d xs;have hr2:=Un hr v.ao d xs;rw[hp];have h:au w0 S R w (ah n1 (Ks.mk KD d)^ah n2 zO^bP b ⟨v.ao,k,p⟩ v.q^kK ap m0 x.cap x^tA p v.so i^ba (dR d) KR xs^aT):=h.aG;refine aK h (λ_=>ah n1 (Ks.mk KD d)^ah n2 zO^bP b ⟨v.ao,k,p⟩ v.q^kK ap m0 x.cap (dn x v.ao d xs).2^tA p v.so i^aT) (λy:Int=>y=(dn x v.ao d xs).1) (λ(y:Int) w hy h=>?_) ?_;rotate_left
   ·refine aj (x:=dK d) h rfl (ae (λc2=>?_) λc2=>?_)
    ·have c2:dK d=2:=gk;refine aH h λw h=>ac (aj (x:=dL d) h rfl (af (HX ap m0 x.cap x hx.i.ok.bf hr.l (by have:=hx.i.w;have:=hx.kr;omega) (dL d) hd.l) h λr w h=>?_));obtain⟨hr1,h⟩:=h.aB;rw[show dn x v.ao d xs=eh x (dL d) by unfold dn;rw[aC c2]];exact⟨hr1,h.aG⟩
    have c2:¬dK d=2:=gk;refine ae (λc3=>?_) λc3=>?_
    ·have c3:dK d=3:=(by simpa using c3);refine aH h λw h=>ac (aj (x:=dU d) h rfl (aj (x:=dR d) h rfl (ui (b:=b) (X:=⟨v.ao,k,p⟩) (q:=v.q) h ?_)));refine bI (A:=kK ap m0 x.cap x) (Q:=ba (dR d) KR xs) (Eu ap m0 x.cap x hx.i.ok hx.i.ps hr.m v.ao (dU d) hv.un (dR d) xs hxl) h λr w h=>?_;obtain⟨hr1,h⟩:=h.aB;rw[show dn x v.ao d xs=ml.nH x v.ao (dU d) xs by unfold dn;rw[ay c2,aC c3]];exact⟨hr1,h.aG⟩
    have c3:¬dK d=3:=(by simpa using c3);refine ae (λc4=>?_) λc4=>?_
    ·have c4:dK d=4:=(by simpa using c4);refine ac (ui (b:=b) (X:=⟨v.ao,k,p⟩) (q:=v.q) h (af (Bm ap m0 x.cap x hx.i.ok hr.m v.ao hv.un) h λr w h=>?_));rw[show dn x v.ao d xs=(0,ie x v.ao) by unfold dn;rw[ay c2,ay c3,aC c4]];exact⟨rfl,h.aG⟩
    ·have c4:¬dK d=4:=(by simpa using c4);refine aj (x:=dL d) h rfl (af (xK ap m0 x.cap x ⟨hx.i.ok.out.1,by have:=hx.i.o;omega⟩ (dL d) hd.l) h λr w h=>?_);obtain⟨hr1,h⟩:=h.aB;rw[show dn x v.ao d xs=b_ x (dL d) by unfold dn;rw[ay c2,ay c3,ay c4]];exact⟨hr1,h.aG⟩
   rw[hy];obtain⟨x',hx'⟩:∃x',x'=(dn x v.ao d xs).2:=⟨_,rfl⟩;obtain⟨e,he⟩:∃e,e=(dn x v.ao d xs).1:=⟨_,rfl⟩;rw[←hx']at hr2 hx2 hid2 h hone;rw[←he]at hone⊢;have hcap:=hr2.c;rw[←hcap]at h hr2;have hxv:Ag (kk+1) i ⟨x',v.q,v.l,eQ⟩:=⟨hx2,hid2.trans hid,hv.q⟩;refine aA h λn42 w h=>?_;have h:=h.nil KS;have h:=h.nil KS;have h:=h.nil qk.KI;have h:=h.v9 n42 ⟨none,0,0⟩ ⟨none,0,0⟩ ⟨none,0,0⟩ eQ;have h:au w0 S R w (fu n42 eQ^bP b ⟨v.ao,k,p⟩ v.q^kK ap m0 x'.cap x'^tA p v.so i^ah n2 zO^aT):=h.aG;refine aK h (λ_=>fu n42 (iM v d xs eQ).2.1^cY b (iM v d xs eQ).2.2^ah n2 zO^aT) (λ_=>e=(iM v d xs eQ).1) (λ_ w hy h=>?_) ?_
   ·obtain⟨s1,s2,s3,h⟩:=h.fu n42;refine ar (b:=n42) (x:=((s1,s2,s3,(iM v d xs eQ).2.1.wd):Ks.T oe)) h rfl (aw h (by rfl) λw h=>ar (b:=n2) (x:=((s1,s2,s3,(iM v d xs eQ).2.1.wd):Ks.T oe)) h rfl ?_);have h:=h.rG (s1,s2,s3,(iM v d xs eQ).2.1.wd) (iM v d xs eQ).2.1 rfl;exact au.aE hy h.aG
   ·refine ae (λc0=>?_) λc0=>?_
    ·have c0:e=0:=(by simpa using c0);rw[aC c0]at hone;rw[hone];refine af (JF b ap n42 (kk+1) ⟨v.ao,k,p⟩ hv.un i x' v.q v.l eQ m0 hxv hr2 hk (by show(0:Nat)≤999∧(0:Nat)≤999;decide)) h λ_ w h=>?_;obtain⟨k2,⟨hk2,hr3⟩,h⟩:=h.t_;obtain⟨s,hse⟩:∃s,s=oA i v.ao ⟨x',v.q,v.l,eQ⟩:=⟨_,rfl⟩;have hqs:s.q.c=v.q.c:=(by rw[hse];exact Mr i v.ao _ _);dsimp only at h hk2 hr3;rw[←hse]at h hk2 hr3;have hc3:=hr3.c;rw[←hc3]at h hr3;have h:au w0 S R w (kK ap m0 s.v.cap s.v^tA p v.so i^bP b ⟨v.ao,k2,p⟩ s.q^fu n42 s.o^ah n2 zO^aT):=h.aG;have h:=h.I5 p v.so hi8 p (gy v.so i (some s.v)) ap m0 s.v (λ_ _=>rfl) (λj hj=>jM v.so _ hj) hp (e_ v.so i _) hr3;have h:=h.gm b k2 p {v with so:=gy v.so i (some s.v),q:=s.q,l:=s.l} ⟨hk2,hqs.trans hqc⟩;rw[show lO v i x' eQ=(s.o,{v with so:=gy v.so i (some s.v),q:=s.q,l:=s.l}) by unfold lO;rw[←hse]];exact⟨c0,h.aG⟩
    ·have c0:¬e=0:=(by simpa using c0);rw[ay c0]at hone;rw[hone];have h:=h.I5 p v.so hi8 p (gy v.so i (some x')) ap m0 x' (λ_ _=>rfl) (λj hj=>jM v.so _ hj) hp (e_ v.so i _) hr2;have h:=h.gm b k p {v with so:=gy v.so i (some x')} ⟨hk,hqc⟩;exact⟨rfl,h.aG⟩
end U3

namespace U1
open bB bi fg lK lV eS z9 Bw Ae qk E2 ES Hd ff EW E4 NM Qu E5 Rc NX UD U3
open dZ (Sk bY b_ eh ie ii cK bp dI)
open Io (kK)
open Rf (pE)
open UG (Bt vE EN EO)
section
variable {w0 w:World} {S0 R0:Nat→Prop} {F G:SP} {b:Nat} {X:Cx} {q:Qm}
theorem Ux(h:au w0 S0 R0 w F)[tk:Take (bP b X q) F G](x:Int){K:WP}(k:∀w',au w0 S0 R0 w' (bP b {X with ao:=x} q^G)→K w'):st ⟨b,0⟩ [.int .u64 x] K w:=by
 obtain⟨r,t,hq,h⟩:=(h.le tk.le).bP b X q;obtain⟨s1,s2,h⟩:=h.jq b X (dN X q.c r t) q.lv;refine az h b (mB {X with ao:=x} q.c r t s1 s2) rfl rfl rfl λw h=>?_;have h:=h.dv b {X with ao:=x} (dN {X with ao:=x} q.c r t) s1 s2 q.lv;exact k w (h.fe b {X with ao:=x} q r t hq).aG
theorem Uw(h:au w0 S0 R0 w F)[tk:Take (bP b X q) F G](c:Cf){K:WP}(k:∀w',au w0 S0 R0 w' (bP b X {q with c:=c}^G)→K w'):st ⟨b,0+1⟩ (Ks.mk KC c) K w:=by
 obtain⟨r,t,hq,h⟩:=(h.le tk.le).bP b X q;obtain⟨s1,s2,h⟩:=h.jq b X (dN X q.c r t) q.lv;refine az h b (mB X c r t s1 s2) rfl rfl rfl λw h=>?_;have h:=h.dv b X (dN X c r t) s1 s2 q.lv;rw[show fw q=fw {q with c:=c}from rfl]at h;exact k w (h.fe b X {q with c:=c} r t ⟨hq.t,hq.r⟩).aG
end
theorem JC(c:Cf):bm (Xm c) aT (λr=>ex λb:Nat=>bh (r=if may c then(some ⟨b,0⟩,0)else(none,13)) (if may c then cY b (sY c)else aT)):=
 br λw0 S R h=>by
  refine aA (h.le (aF _)) λn1 w h=>ar (b:=n1) (x:=c) h rfl (af (Wi.Ey c) h λr w h=>?_);obtain⟨hr,h⟩:=h.aB;rw[hr];by_cases hm:may c=true
  ·refine ae (λcc=>(by rw[hm]at cc;cases cc)) λ_=>?_;refine ar (b:=n1) (x:=c) h rfl (aA h λn5 w h=>?_);have h:=h.du (b:=n5) (L':=mB ⟨0,λ_=>Fz,λ_=>none⟩ c (λ_=>zF) (λ_=>false) ⟨none,0,0⟩ ⟨none,0,0⟩) rfl;have h:=(h.nil KI).nil KI;have h:=h.dv n5 ⟨0,λ_=>Fz,λ_=>none⟩ (dN ⟨0,λ_=>Fz,λ_=>none⟩ c (λ_=>zF) (λ_=>false)) ⟨none,0,0⟩ ⟨none,0,0⟩ ([],[]);obtain⟨T,hT⟩:∃T,T=jq n5 ⟨0,λ_=>Fz,λ_=>none⟩ (dN ⟨0,λ_=>Fz,λ_=>none⟩ c (λ_=>zF) (λ_=>false)) ([],[]):=⟨_,rfl⟩;rw[←hT]at h;have h:au w0 S R w (T^aT):=h.aG;have h8:∀k,au w0 S R w (dV (qQ (λ_=>zF) (fw (B8 c))) k^T^aT):=λk=>by
    induction k with
    |zero=>exact h.le ((aF _).trans (aV _ _))
    |succ k ih=>exact(ih.nil KS).le (cM _ _ _)
   have h:=h8 8;rw[hT]at h;have h:=h.fe n5 ⟨0,λ_=>Fz,λ_=>none⟩ (B8 c) (λ_=>zF) (λ_=>false) ⟨λ_ _=>rfl,λ_ _=>rfl⟩;have e:nv (λ_=>none) (λ_=>none)=dV (λ_=>bh ((none:Option Pt)=none) aT) 8:=rfl;have hall:∀n,Le aT (dV (λ_=>bh ((none:Option Pt)=none) aT) n):=λn=>by
    induction n with
    |zero=>exact Le.rfl
    |succ n ih=>exact(aF aT).trans (aZ (λ_ _ _ h=>⟨rfl,h⟩) ih)
   have h:au w0 S R w (nv (λ_=>none) (λ_=>none)^_):=(h.le ((aF _).trans (aV _ _))).le (aZ (by rw[e];exact hall 8) Le.rfl);have h:=h.gm n5 (λ_=>Fz) (λ_=>none) (sY c) ⟨λ_=>rfl,rfl⟩;refine au.gX n5 (au.aE (by rw[aC hm]) ?_);rw[aC hm];exact h.bk
  ·refine ae (λ_=>?_) λcc=>(by simp at cc;exact absurd cc hm);refine au.gX 0 (au.aE (by rw[ay hm]) ?_);rw[ay hm];exact h.fV
theorem PL(v:Mc)(d:Dd)(xs:List (Int×Int))(h:(iM v d xs eQ).1≠0):(iM v d xs eQ).2.1=eQ:=by
 unfold iM at h⊢;split
 ·rfl
 ·rename_i c;rw[ay c]at h;split
  ·split<;>rfl
  ·rename_i x hx;rw[hx]at h;dsimp only at h;split
   ·rfl
   ·rename_i c1;rw[ay c1]at h;split
    ·rename_i c9;rw[aC c9]at h;exact absurd rfl h
    ·rename_i c9;rw[ay c9]at h;split
     ·rename_i c0;rw[aC c0]at h;exact absurd rfl h
     ·rfl
theorem PY(b:Nat)(kk:Int)(v:Mc)(hv:iH kk v)(hkk:kk<1000000)(d:Dd)(hd:JT d)(xs:List (Ks.T KR))(hxl:xs.length≤4294967296):
  bm (Xn (some ⟨b,0⟩) d) (cY b v^ba (dR d) KR xs) (λr=>bh (r.2=(mH v d xs).1.2) (cY b (mH v d xs).2^oc r.1 (mH v d xs).1.1)):=
 br λw0 S R h=>by
  refine aA (h.le (aF _)) λn1 w h=>aA h λn2 w h=>aj (x:=dK d) h rfl ?_;have h:au w0 S R w (ah n1 (Ks.mk KD d)^ah n2 zO^cY b v^ba (dR d) KR xs^aT):=h.aG;have done:∀{w:World} (e:Int) (v':Mc),mH v d xs=((eQ,e),v')→au w0 S R w (ah n2 zO^cY b v'^aT)→(st ⟨n2,0⟩ zO<|ld oe ⟨n2,0⟩ λ(x:Ks.T oe)=>(λ(r:Ks.T oe×Int) w=>au w0 S R w (bh (r.2=(mH v d xs).1.2) (cY b (mH v d xs).2^oc r.1 (mH v d xs).1.1))) (x,e)) w:=by
   intro w e v' he h;rw[he];refine aw h (by rfl) λw h=>ar (b:=n2) (x:=((⟨none,0,0⟩,⟨none,0,0⟩,⟨none,0,0⟩,0):Ks.T oe)) h rfl ?_;have h:=h.nil KS;have h:=h.nil KS;have h:=h.nil qk.KI;have h:=h.rG (⟨none,0,0⟩,⟨none,0,0⟩,⟨none,0,0⟩,0) eQ rfl;exact au.aE rfl h.aG
  refine aK h (λ_=>ah n1 (Ks.mk KD d)^ah n2 zO^cY b v^ba (dR d) KR xs^aT) (λy:Bool=>y=uS (dK d)) (λ(y:Bool) w hy h=>?_) ?_;rotate_left
  ·unfold uS;refine ae (λc=>⟨by rw[c];rfl,h⟩) λd1=>?_;refine ae (λc=>⟨by rw[d1,c];rfl,h⟩) λd2=>?_;refine ae (λc=>⟨by rw[d1,d2,c];rfl,h⟩) λd3=>?_;refine ae (λc=>⟨by rw[d1,d2,d3,c];rfl,h⟩) λd4=>?_;refine ae (λc=>⟨by rw[d1,d2,d3,d4,c];rfl,h⟩) λd5=>?_;exact⟨by rw[d1,d2,d3,d4,d5];rfl,h⟩
  rw[hy];refine ae (λc=>?_) λc=>?_
  ·have ho:=VP c;have estep:dT v d xs=iM v d xs eQ:=(by unfold dT;rw[ay (by omega),ay (by omega),ay (by omega),aC c]);refine ar (b:=n1) (x:=d) h rfl ?_;refine bI (A:=cY b v) (Q:=ba (dR d) KR xs) (JG b kk v hv hkk d hd xs hxl) h λr w h=>?_;obtain⟨hr,h⟩:=h.aB;refine aw h (by rfl) λw h=>ar (b:=n2) (x:=(r.1:Ks.T oe)) h rfl ?_;have hdo:mH v d xs=(((iM v d xs eQ).2.1,(iM v d xs eQ).1),(iM v d xs eQ).2.2):=by
    unfold mH;rw[estep];by_cases h0:(iM v d xs eQ).1=0
    ·rw[ay (λx=>x h0),h0]
    ·rw[aC h0,PL v d xs h0]
   rw[hdo];exact au.aE hr h.aG
  have hno:uS (dK d)=false:=c;refine ae (λc5=>?_) λc5=>?_
  ·have c5:dK d=5:=(by simpa using c5);have hdo:mH v d xs=((eQ,(ig v.ao (dA d)).1),{v with ao:=(ig v.ao (dA d)).2}):=by
    have e:dT v d xs=((ig v.ao (dA d)).1,eQ,{v with ao:=(ig v.ao (dA d)).2}):=(by unfold dT;rw[aC c5]);unfold mH;rw[e];by_cases h0:(ig v.ao (dA d)).1=0
    ·rw[ay (λx=>x h0),h0]
    ·rw[aC h0]
   refine aj (x:=dA d) h rfl (ae (λc1=>?_) λc1=>?_)
   ·have c1:dA d>4611686018427387904:=bJ c1;have em:ig v.ao (dA d)=(3,v.ao):=(by unfold ig;rw[aC c1]);rw[em]at hdo;exact done 3 v hdo h.aG
   have c1:¬dA d>4611686018427387904:=bQ c1;obtain⟨k,p,hk,h⟩:=h.cY b;refine aH h λw h=>aj (x:=dA d) h rfl (ac (ui (b:=b) (X:=⟨v.ao,k,p⟩) (q:=v.q) h (ae (λc2=>?_) λc2=>?_)))
   ·have c2:dA d<v.ao:=bJ c2;have em:ig v.ao (dA d)=(4,v.ao):=(by unfold ig;rw[ay c1,aC c2]);rw[em]at hdo;have h:=h.gm b k p v hk;exact done 4 v hdo h.aG
   ·have c2:¬dA d<v.ao:=bQ c2;have em:ig v.ao (dA d)=(0,dA d):=(by unfold ig;rw[ay c1,ay c2]);rw[em]at hdo;refine aj (x:=dA d) h rfl (ac (Ux (b:=b) (X:=⟨v.ao,k,p⟩) (q:=v.q) h (dA d) λw h=>?_));have h:=h.gm b k p {v with ao:=dA d} hk;exact done 0 _ hdo h.aG
  have c5:¬dK d=5:=by simpa using c5
  refine ae (λc6=>?_) λc6=>?_
  ·have c6:dK d=6:=(by simpa using c6);have hdo:mH v d xs=(((fy v eQ).1,0),(fy v eQ).2):=by
    have e:dT v d xs=(0,(fy v eQ).1,(fy v eQ).2):=(by unfold dT;rw[ay c5,aC c6]);unfold mH;rw[e,ay (λx=>x rfl)]
   rw[hdo];refine af (JE b kk v hv) h λr w h=>?_;refine aw h (by rfl) λw h=>ar (b:=n2) (x:=(r:Ks.T oe)) h rfl ?_;exact au.aE rfl h.aG
  have c6:¬dK d=6:=by simpa using c6
  refine ae (λc8=>?_) λc8=>?_
  ·have c8:dK d=8:=(by simpa using c8);have hst:dT v d xs=((qO v (dC d)).1,eQ,(qO v (dC d)).2):=(by unfold dT;rw[ay c5,ay c6,aC c8]);refine aj (x:=dC d) h rfl (af (Wi.Ey (dC d)) h λr w h=>?_);obtain⟨hr,h⟩:=h.aB;rw[hr];refine ae (λc1=>?_) λc1=>?_
   ·have c1:¬may (dC d)=true:=(by simpa using c1);have es:qO v (dC d)=(13,v):=(by unfold qO qg;rw[ay c1];rfl);have hdo:mH v d xs=((eQ,13),v):=(by unfold mH;rw[hst,es];rfl);exact done 13 v hdo h.aG
   ·have c1:may (dC d)=true:=(by simpa using c1);have es:qO v (dC d)=(0,{v with q:={v.q with c:=dC d},c:=dC d}):=(by unfold qO qg;rw[aC c1];rfl);have hdo:mH v d xs=((eQ,0),{v with q:={v.q with c:=dC d},c:=dC d}):=(by unfold mH;rw[hst,es];rfl);obtain⟨k,p,hk,h⟩:=h.cY b;refine aj (x:=dC d) h rfl (ac (Uw (b:=b) (X:=⟨v.ao,k,p⟩) (q:=v.q) h (dC d) λw h=>?_));have h:=h.gm b k p {v with q:={v.q with c:=dC d},c:=dC d} ⟨hk.1,rfl⟩;exact done 0 _ hdo h.aG
  have c8:¬dK d=8:=by simpa using c8
  have hdo:mH v d xs=((eQ,12),v):=by
   have e:dT v d xs=(12,eQ,v):=(by unfold dT;rw[ay c5,ay c6,ay c8,ay (by rw[hno];simp)]);unfold mH;rw[e];rfl
  exact done 12 v hdo h.aG
theorem GK(b:Nat)(v:Mc)(i:Int):bm (XF (some ⟨b,0⟩) i) (cY b v) (λr=>bh (r=(WN (eY v i),(eY v i).isSome)) (cY b v)):=
 br λw0 S R h=>by
  refine aA (h.le (aF _)) λn1 w h=>?_;obtain⟨k,p,hk,h⟩:=h.cY b;have h:=h.du (b:=n1) (L':=Ks.mk bC Jf) rfl;refine aK h (λ_=>ah n1 (Ks.mk bC Jf)^bP b ⟨v.ao,k,p⟩ v.q^nv p v.so^aT) (λ_=>(0≤i∧i<8)∧∃x,v.so i.toNat=some x) (λ_ w c h=>?_) ?_
  ·obtain⟨hi,x,hs⟩:=c;have hi8:i.toNat<8:=by omega
   have ho:eY v i=some x:=(by unfold eY;rw[aC hi,hs]);rw[ho];refine ac ⟨hi,z7 (b:=b) (X:=⟨v.ao,k,p⟩) (q:=v.q) h hi8 ?_⟩;dsimp only;obtain⟨a,m0,⟨hp,hr⟩,h⟩:=h.A9 p v.so hi8 hs;rw[hp];refine ac (EN (b:=a) (m0:=m0) (c0:=x.cap) (v:=x) h λw h=>?_);refine aw h (by rfl) λw h=>ar (b:=n1) (x:=eH.Ac x.md) h rfl ?_;have h:=h.I5 p v.so hi8 p v.so a m0 x (λ_ _=>rfl) (λ_ _=>rfl) hp hs hr;exact au.aE rfl (h.gm b k p v hk).aG
  ·have no:∀{w:World},eY v i=none→au w0 S R w (ah n1 (Ks.mk bC Jf)^bP b ⟨v.ao,k,p⟩ v.q^nv p v.so^aT)→(st ⟨n1,0⟩ (Ks.mk bC Jf)<|ld bC ⟨n1,0⟩ λ(x:Ks.T bC)=>(λ(r:Ks.T bC×Bool) w=>au w0 S R w (bh (r=(WN (eY v i),(eY v i).isSome)) (cY b v))) (x,false)) w:=by
    intro w ho h;rw[ho];refine aw h (by rfl) λw h=>ar (b:=n1) (x:=Jf) h rfl ?_;exact au.aE rfl (h.gm b k p v hk).aG
   refine ae (λc=>?_) λc=>?_
   ·have c:i<0∨i≥8:=bV;exact no (by unfold eY;rw[ay (by omega)]) h.aG
   ·have c:¬(i<0∨i≥8):=bV;have hi8:i.toNat<8:=(by omega);have hsn:=TT h p v.so hi8;refine ac ⟨by omega,z7 (b:=b) (X:=⟨v.ao,k,p⟩) (q:=v.q) h hi8 ?_⟩;dsimp only;cases hs:v.so i.toNat with
    |none=>
     rw[hs]at hsn;refine ae (λ_=>?_) λcc=>(by rw[hsn]at cc;simp at cc);exact no (by unfold eY;rw[aC (by omega),hs]) h.aG
    |some x=>
     rw[hs]at hsn;refine ae (λcc=>(by rw[hsn]at cc;simp at cc)) λ_=>⟨⟨by omega,x,rfl⟩,h.aG⟩
theorem qe(b:Nat)(kk:Int)(v:Mc)(hv:iH kk v)(i:Int):bm (XG (some ⟨b,0⟩) i) (cY b v) (λr=>bh (r=(QZ (eY v i),(eY v i).isSome)) (cY b v)):=
 br λw0 S R h=>by
  refine aA (h.le (aF _)) λn1 w h=>?_;obtain⟨k,p,hk,h⟩:=h.cY b;have h:=h.du (b:=n1) (L':=Ks.mk [.int .u64,.int .u64,.int .u64,.int .i64] Uf) rfl;refine aK h (λ_=>ah n1 (Ks.mk [.int .u64,.int .u64,.int .u64,.int .i64] Uf)^bP b ⟨v.ao,k,p⟩ v.q^nv p v.so^aT) (λ_=>(0≤i∧i<8)∧∃x,v.so i.toNat=some x) (λ_ w c h=>?_) ?_
  ·obtain⟨hi,x,hs⟩:=c;have hi8:i.toNat<8:=by omega
   have ho:eY v i=some x:=(by unfold eY;rw[aC hi,hs]);rw[ho];refine ac ⟨hi,z7 (b:=b) (X:=⟨v.ao,k,p⟩) (q:=v.q) h hi8 ?_⟩;dsimp only;obtain⟨a,m0,⟨hp,hr⟩,h⟩:=h.A9 p v.so hi8 hs;rw[hp];refine EO (b:=a) (m0:=m0) (c0:=x.cap) (v:=x) (K:=λy1 y2 y3 y4=>st ⟨n1,0⟩ [.int .u64 y1,.int .u64 y2,.int .u64 y3,.int .i64 y4]<|ld [.int .u64,.int .u64,.int .u64,.int .i64] ⟨n1,0⟩ λ(y:Int×Int×Int×Int)=>(λ(r:(Int×Int×Int×Int)×Bool) w=>au w0 S R w (bh (r=(QZ (some x),(some x).isSome)) (cY b v))) (y,true)) h (hv.so _ x hs).1.i.ok hr λw h=>?_;refine aw h (by rfl) λw h=>ar (b:=n1) (x:=QZ (some x)) h rfl ?_;have h:=h.I5 p v.so hi8 p v.so a m0 x (λ_ _=>rfl) (λ_ _=>rfl) hp hs hr;exact au.aE rfl (h.gm b k p v hk).aG
  ·have no:∀{w:World},eY v i=none→au w0 S R w (ah n1 (Ks.mk [.int .u64,.int .u64,.int .u64,.int .i64] Uf)^bP b ⟨v.ao,k,p⟩ v.q^nv p v.so^aT)→(st ⟨n1,0⟩ (Ks.mk [.int .u64,.int .u64,.int .u64,.int .i64] Uf)<|ld [.int .u64,.int .u64,.int .u64,.int .i64] ⟨n1,0⟩ λ(x:Int×Int×Int×Int)=>(λ(r:(Int×Int×Int×Int)×Bool) w=>au w0 S R w (bh (r=(QZ (eY v i),(eY v i).isSome)) (cY b v))) (x,false)) w:=by
    intro w ho h;rw[ho];refine aw h (by rfl) λw h=>ar (b:=n1) (x:=Uf) h rfl ?_;exact au.aE rfl (h.gm b k p v hk).aG
   refine ae (λc=>?_) λc=>?_
   ·have c:i<0∨i≥8:=bV;exact no (by unfold eY;rw[ay (by omega)]) h.aG
   ·have c:¬(i<0∨i≥8):=bV;have hi8:i.toNat<8:=(by omega);have hsn:=TT h p v.so hi8;refine ac ⟨by omega,z7 (b:=b) (X:=⟨v.ao,k,p⟩) (q:=v.q) h hi8 ?_⟩;dsimp only;cases hs:v.so i.toNat with
    |none=>
     rw[hs]at hsn;refine ae (λ_=>?_) λcc=>(by rw[hsn]at cc;simp at cc);exact no (by unfold eY;rw[aC (by omega),hs]) h.aG
    |some x=>
     rw[hs]at hsn;refine ae (λcc=>(by rw[hsn]at cc;simp at cc)) λ_=>⟨⟨by omega,x,rfl⟩,h.aG⟩
end U1

namespace WX
open bB bi fg lK lV wP eS z9 Bw Ae qk E2 ES Hd NV Qp ff EW E4 NM Qu E5 Rc NX UD U3 U1
open dZ (Sk bY b_ eh ie ii cK bp dI)
structure U9(o:Ou):Prop where
 a:o.oa.length≤1
 b:o.dr.length≤1000
 c:o.ft.length≤1000
theorem vB:U9 eQ:=⟨kv _,kv _,kv _⟩
theorem Bb(i ao:Int):∀(n:Nat) (s:Pm),(mC i ao n s).o.oa=s.o.oa∧(mC i ao n s).o.dr.length≤s.o.dr.length+1∧(mC i ao n s).o.ft.length≤s.o.ft.length+1
 |0,s=>⟨rfl,uc _,uc _⟩
 |n+1,s=>by
  unfold mC;split
  ·exact⟨rfl,uc _,uc _⟩
  ·have e:((enter i ao s).2=0∧(enter i ao s).1.o=s.o)∨((enter i ao s).2≠0∧(enter i ao s).1.o.oa=s.o.oa∧(enter i ao s).1.o.dr.length≤s.o.dr.length+1∧(enter i ao s).1.o.ft.length≤s.o.ft.length+1):=by
    unfold enter;dsimp only;split
    ·exact .inl ⟨rfl,rfl⟩
    ·refine .inr ⟨(show(1:Int)≠0 by decide),rfl,?_,?_⟩
     ·show(s.o.dr++[_]).length≤_;rw[iE];exact fa _
     ·show(s.o.ft++[_]).length≤_;rw[iE];exact fa _
   rcases e with⟨e1,e2⟩|⟨e1,e2,e3,e4⟩
   ·rw[aC e1];have:=Bb i ao n (enter i ao s).1;rw[e2]at this;exact this
   ·rw[ay e1];exact⟨e2,e3,e4⟩
theorem IY(l:Nat→Ct)(o:Ou):∀a:List Sg,(cV l o a).1.oa=o.oa:=by
 intro a
 induction a generalizing l o with
 |nil=>rfl
 |cons x a ih=>exact ih _ _
theorem TK{k:Int}{v:Mc}(hv:iH k v)(d:Dd)(xs:List (Int×Int)):U9 (mH v d xs).1.1:=by
 unfold mH;split
 ·exact vB
 show U9 (dT v d xs).2.1;unfold dT;split
 ·exact vB
 split
 ·show U9 (fy v eQ).1;unfold fy;split
  ·exact⟨fa _,kv _,kv _⟩
  ·dsimp only;split
   ·exact⟨kv _,kv _,kv _⟩
   ·exact vB
 split
 ·exact vB
 split
 ·show U9 (iM v d xs eQ).2.1;unfold iM;split
  ·exact vB
  split
  ·split<;>exact vB
  ·split
   ·exact vB
   split
   ·have h1:=vW v.l eQ (cw v.q ((dS d).toNat:Int)).1;have h2:=vS hv.q ((dS d).toNat:Int);have h3:=IY v.l eQ (cw v.q ((dS d).toNat:Int)).1;refine⟨?_,?_,?_⟩
    ·show(cV v.l eQ (cw v.q ((dS d).toNat:Int)).1).1.oa.length≤1;rw[h3];exact kv _
    ·show(cV v.l eQ (cw v.q ((dS d).toNat:Int)).1).1.dr.length≤1000;have:eQ.dr.length=0:=rfl;omega
    ·show(cV v.l eQ (cw v.q ((dS d).toNat:Int)).1).1.ft.length≤1000;have:eQ.ft.length=0:=rfl;omega
   split
   ·rename_i x _ _ _ _;obtain⟨h1,h2,h3⟩:=Bb ((dS d).toNat:Int) v.ao (fresh (dn x v.ao d xs).2+1) ⟨(dn x v.ao d xs).2,v.q,v.l,eQ⟩;have e1:eQ.dr.length=0:=rfl;have e2:eQ.ft.length=0:=rfl;refine⟨?_,?_,?_⟩
    ·show(mC _ _ _ _).o.oa.length≤1;rw[h1];exact kv _
    ·show(mC _ _ _ _).o.dr.length≤1000;exact lQ h2 (show 0+1≤1000 by decide)
    ·show(mC _ _ _ _).o.ft.length≤1000;exact lQ h3 (show 0+1≤1000 by decide)
   ·exact vB
 ·exact vB
theorem AX(x y:Ks.T KF)(xs:List Sg)(hl:xs.length≤512)(h1:(x.1:Int)=y.1)(h2:(x.2.1:Int)=y.2.1)(h3:(x.2.2.1:Int)=y.2.2.1)(h4:(x.2.2.2.1:Int)=y.2.2.2.1)(h5:(x.2.2.2.2.1:Int)=y.2.2.2.2.1):bm (XJ x y) (aT^ba x.2.2.2.2.2 KS xs^ba y.2.2.2.2.2 KS xs) (λr=>bh (r=true) aT):=
 br λw0 S R h=>by
  refine aA h λn1 w h=>aA h λn2 w h=>?_;refine aj h rfl (aj h rfl (ae (λ_=>?_) λc=>(by rw[h1]at c;simp at c)));refine aj h rfl (aj h rfl (ae (λ_=>?_) λc=>(by rw[h2]at c;simp at c)));refine aj h rfl (aj h rfl (ae (λ_=>?_) λc=>(by rw[h3]at c;simp at c)));refine aj h rfl (aj h rfl (ae (λ_=>?_) λc=>(by rw[h4]at c;simp at c)));refine aj h rfl (aj h rfl (ae (λ_=>?_) λc=>(by rw[h5]at c;simp at c)));refine aj h rfl (aj h rfl ?_);refine bI (A:=aT) (Q:=ba x.2.2.2.2.2 KS xs^ba y.2.2.2.2.2 KS xs) (J1.oQ x.2.2.2.2.2 y.2.2.2.2.2 xs xs (by omega)) h λr w h=>?_;obtain⟨hr,h⟩:=h.aB;exact au.aE (hr.2 rfl) h.fV
theorem Iu(b m:Nat)(kk:Int)(v:Mc)(hv:iH kk v):bm (Xo (some ⟨b,0⟩) (some ⟨m,0⟩)) (dy b v^cY m v) (λr=>bh (r=true) (dy b v^cY m v)):=
 br λw0 S R h=>by
  refine aK h (λ_=>dy b v^cY m v^aT) (λ_=>True) (λ_ w _ h=>?_) ?_;rotate_left
  ·have h:au w0 S R w0 (dy b v^cY m v^aT):=h.aG;obtain⟨k,p,hk,h⟩:=h.cY m;refine aH h λw h=>ac (ui (b:=m) (X:=⟨v.ao,k,p⟩) (q:=v.q) h (af (L1 b v) h λr w h=>?_));obtain⟨hr,h⟩:=h.aB;rw[hr];refine G9 (b:=m) (X:=⟨v.ao,k,p⟩) (q:=v.q) h (ae (λc=>absurd c (by simp)) λ_=>ac (af (zz b v) h λr w h=>?_));obtain⟨hr,h⟩:=h.aB;rw[hr];obtain⟨r,t,hq,h⟩:=h.bP m ⟨v.ao,k,p⟩ v.q;refine af (Ex m ⟨v.ao,k,p⟩ v.q hv.q r t hq) h λx w h=>?_;obtain⟨hx,h⟩:=h.aB;rw[hx];have h:=h.fe m ⟨v.ao,k,p⟩ v.q r t hq;have h:=h.gm m k p v hk;refine ae (λc=>absurd c (by simp)) λ_=>⟨trivial,h.aG⟩
  refine cS (λ_:Int=>dy b v^cY m v^aT) (λy:Int=>-1≤y∧y≤9) (λy:Int=>(9-y).toNat) h ⟨by decide,by decide⟩ ?_;rintro(i:Int) w hi h;have hwi:IntKind.i64.wrap (i+1)=i+1:=wi (by omega) (by omega);refine ae (λc=>?_) λ_=>au.aE rfl h.aG;have c9:i≤8:=bV;clear c;refine af (Ae.sD b v i) h λr w h=>?_;obtain⟨hr,h⟩:=h.aB;rw[hr];refine aA h λn12 w h=>aw h (by rfl) λw h=>af (GK m v i) h λr w h=>?_;obtain⟨hr,h⟩:=h.aB;rw[hr];refine aA h λn14 w h=>aw h (by rfl) λw h=>af (Ae.sO b kk v hv i) h λr w h=>?_;obtain⟨hr,h⟩:=h.aB;rw[hr];refine aA h λn16 w h=>aw h (by rfl) λw h=>af (U1.qe m kk v hv i) h λr w h=>?_;obtain⟨hr,h⟩:=h.aB;rw[hr];refine aA h λn18 w h=>aw h (by rfl) λw h=>af (Jg b v hv.q i) h λr w h=>?_;obtain⟨sa,h⟩:=h.lX;obtain⟨hr,h⟩:=h.aB;rw[hr];refine aA h λn20 w h=>aw h (by rfl) λw h=>?_;obtain⟨k,p,hk,h⟩:=h.cY m;refine ac (af (Jv m ⟨v.ao,k,p⟩ v.q hv.q i) h λr w h=>?_);obtain⟨sb,h⟩:=h.lX;obtain⟨hr,h⟩:=h.aB;rw[hr];refine aA h λn23 w h=>aw h (by rfl) λw h=>ac (af (GC m ⟨v.ao,k,p⟩ v.q i) h λr w h=>?_);obtain⟨hr,h⟩:=h.aB;refine aA h λn26 w h=>aw h (by rfl) λw h=>?_;have hct:jb k i=jb v.l i:=by
   unfold jb;split
   ·rfl
   ·rw[hk.1 i.toNat]
  rw[hr]at h;dsimp only at h;rw[hct]at h;have h:=h.gm m k p v hk;obtain⟨M,hM⟩:∃M,M=WN (eY v i):=⟨_,rfl⟩;obtain⟨T,hT⟩:∃T,T=QZ (eY v i):=⟨_,rfl⟩;rw[←hM,←hT]at h;have h:au w0 S R w (ah n12 (Ks.mk bC M)^ah n14 (Ks.mk bC M)^ah n16 (Ks.mk [.int .u64,.int .u64,.int .u64,.int .i64] T)^ah n18 (Ks.mk [.int .u64,.int .u64,.int .u64,.int .i64] T)^ah n20 (Ks.mk KF (nV v.q i sa).1)^ah n23 (Ks.mk KF (nV v.q i sb).1)^ah n26 (Ks.mk C8 (jb v.l i))^aP sa KS (EX v.q i)^aP sb KS (EX v.q i)^dy b v^cY m v^aT):=h.aG;refine aK h (λ_=>dy b v^cY m v^aT) (λy:Bool=>y=false) (λ(y:Bool) w hy h=>?_) ?_
  ·rw[hy];refine ae (λc=>by cases c) λ_=>?_;rw[hwi];exact⟨⟨⟨by omega,by omega⟩,h⟩,by omega⟩
  refine aH h λw h=>ar (b:=n12) (x:=M) h rfl (ar (b:=n14) (x:=M) h rfl (ae (λc=>absurd c (by simp)) λ_=>ae (λc=>absurd c (by simp)) λ_=>?_));refine ar (b:=n16) (x:=T) h rfl (ar (b:=n18) (x:=T) h rfl (ae (λc=>absurd c (by simp)) λ_=>ae (λc=>absurd c (by simp)) λ_=>?_));have vG:∀{w:World},au w0 S R w (ah n26 (Ks.mk C8 (jb v.l i))^dy b v^cY m v^aT)→
    (ld C8 ⟨n26,0⟩ λ(x36:Ct)=>call Tryz.prog pI [.lf (.ptr (some ⟨b,0⟩)),.lf (.int .i64 i)] [.agg C8] λ(r37:Ct)=>co ⟨n26,0⟩ (Ks.mk C8 x36)<|
     aq (!((r37.1==x36.1)&&(((r37.2.1==x36.2.1)&&((r37.2.2.1==x36.2.2.1)&&((r37.2.2.2.1==x36.2.2.2.1)&&((r37.2.2.2.2.1==x36.2.2.2.2.1)&&((r37.2.2.2.2.2.1==x36.2.2.2.2.2.1)&&(r37.2.2.2.2.2.2.1==x36.2.2.2.2.2.2.1))))))&&(r37.2.2.2.2.2.2.2==x36.2.2.2.2.2.2.2)))) (
      aq (decide (i≥(0:Int))) ((λ(y:Bool) w=>y=false∧au w0 S R w (dy b v^cY m v^aT)) (decide (i<(8:Int))))<|(λ(y:Bool) w=>y=false∧au w0 S R w (dy b v^cY m v^aT)) false)<|(λ(y:Bool) w=>y=false∧au w0 S R w (dy b v^cY m v^aT)) false) w:=by
   intro w h;refine ar (b:=n26) (x:=jb v.l i) h rfl (af (FT b v i) h λr w h=>?_);obtain⟨hr,h⟩:=h.aB;rw[hr];refine aJ (b:=n26) h (ae (λc=>absurd c (by simp)) λ_=>⟨rfl,h.aG⟩)
  cases hh:pS v.q i with
  |false=>
   have e1:∀s,nV v.q i s=(D6,false):=λs=>by unfold nV;rw[ay (by rw[hh];simp)]
   rw[e1,e1]at h⊢;refine ar (b:=n20) (x:=D6) h rfl (ar (b:=n23) (x:=D6) h rfl ?_);have h:=h.nil KS;refine bI (A:=aT) (Q:=ba ⟨none,0,0⟩ KS []^ba ⟨none,0,0⟩ KS []) (AX D6 D6 [] (by simp) rfl rfl rfl rfl rfl) h λx w h=>?_;obtain⟨hx,h⟩:=h.aB;rw[hx];refine ae (λc=>(by simp at c)) λ_=>ae (λc=>(by simp at c)) λ_=>?_;exact vG h.aG
  |true=>
   have hh':=hh;unfold pS at hh';simp only[fG,gK,qx]at hh';obtain⟨hi,f,hf⟩:=hh';have e1:∀s,nV v.q i s=((i,f.cr,eM v.q i.toNat,f.nx,f.si,s),true):=λs=>by unfold nV;rw[aC hh,hf]
   have e2:EX v.q i=f.sg:=(by unfold EX;rw[aC hh,hf]);have hlen:=(hv.q.len hf).2;rw[e1,e1]at h⊢;rw[e2]at h;refine ar (b:=n20) (x:=(i,f.cr,eM v.q i.toNat,f.nx,f.si,sa)) h rfl (ar (b:=n23) (x:=(i,f.cr,eM v.q i.toNat,f.nx,f.si,sb)) h rfl ?_);refine bI (A:=aT) (Q:=ba sa KS f.sg^ba sb KS f.sg) (AX (i,f.cr,eM v.q i.toNat,f.nx,f.si,sa) (i,f.cr,eM v.q i.toNat,f.nx,f.si,sb) f.sg hlen rfl rfl rfl rfl rfl) h λx w h=>?_;obtain⟨hx,h⟩:=h.aB;rw[hx];refine ae (λc=>(by simp at c)) λ_=>ae (λc=>(by simp at c)) λ_=>?_;exact vG h.aG
end WX

namespace WY
open bB bi fg lK lV wP eS z9 Bw Ae qk E2 ES Hd NV Qp UC ff EW E4 NX UD U3 U1 WX
theorem Jo(d:Cf)(s:Sl)(raw:Bool)(ps:List BA)(hd:0≤cH d∧U (cR d))(hp:∀p∈ps,Wk p):bm (c12 d s raw) (u7 s ps) (λr=>bh (r=true) aT):=
 br λw0 S R h=>by
  have h:au w0 S R w0 (u7 s ps):=h;have hsl:=(h.rd (s:=s)).2;rw[kT]at hsl;refine aA h λn1 w h=>?_;have h:au w0 S R w (ah n1 (Ks.mk KC d)^u7 s ps):=h;refine aK h (λ_=>wZ (λc:Cf=>0≤cH c∧U (cR c)) (λc:Cf=>ah n1 (Ks.mk KC c))^u7 s ps) (λ_=>True) (λ_ w _ h=>?_) ?_;rotate_left
  ·refine ae (λ_=>?_) λ_=>?_
   ·refine ar (b:=n1) (x:=d) h rfl (af (EU.Fx d) (h.le ((aF _).trans (aV _ _))) λx w h=>?_);obtain⟨hx,h⟩:=h.aB;rw[hx];refine aw h (by rfl) λw h=>?_;have hok:=EU.IR hd.1 hd.2;have h:=h.qH (f:=λc:Cf=>ah n1 (Ks.mk KC c)) (φ:=λc:Cf=>0≤cH c∧U (cR c)) (EU.nb d) ⟨hok.h.1,hok.r⟩;exact⟨trivial,h.aG⟩
   ·have h:=h.qH (f:=λc:Cf=>ah n1 (Ks.mk KC c)) (φ:=λc:Cf=>0≤cH c∧U (cR c)) d hd;exact⟨trivial,h.aG⟩
  obtain⟨c,hc,h⟩:=h.t_;refine ar (b:=n1) (x:=c) h rfl (af (ES.jj c) (h.le ((aF _).trans (aV _ _))) λr w h=>?_);obtain⟨b,h⟩:=h.lX;obtain⟨hr,h⟩:=h.aB;obtain⟨A,hA⟩:∃A,A=(if may c=true then dy b (sY c)else aT):=⟨_,rfl⟩;rw[←hA]at h;rw[hr];have h:au w0 S R w (ah n1 (Ks.mk KC c)^A^u7 s ps):=h.aG;refine ar (b:=n1) (x:=c) h rfl (af (JC c) (h.le ((aF _).trans (aV _ _))) λr w h=>?_);obtain⟨m,h⟩:=h.lX;obtain⟨hr,h⟩:=h.aB;rw[hr];refine af Iz (h.le ((aF _).trans (aV _ _))) λr w h=>?_;obtain⟨hr,h⟩:=h.aB;rw[hr];by_cases hm:may c=true;rotate_left
  ·rw[ay hm,ay hm];refine ae (λc=>(by cases c)) λ_=>ae (λ_=>?_) λc=>(by cases c);exact au.aE rfl h.fV
  rw[aC hm]at hA h⊢;rw[aC hm];rw[hA]at h;refine ae (λc=>(by cases c)) λ_=>ae (λc=>(by cases c)) λ_=>?_;have h:au w0 S R w (dy b (sY c)^cY m (sY c)^aT^u7 s ps):=h.aG;refine bI (A:=aT) (Q:=u7 s ps) (IV s ps 70 (by decide) hp) h λr4 w h=>?_;have h:au w0 S R w (dy b (sY c)^cY m (sY c)^aP r4 KD ((ga 70 ps).map Prod.fst)^u7 s ps):=h.aG;have hr4:=(h.rd (s:=r4)).2;rw[kT,ga,kT,fM]at hr4;refine gn (λ(_:Int) (v:Mc)=>dy b v^cY m v^aP r4 KD ((ga 70 ps).map Prod.fst)^u7 s ps) (λ(y:Int) v=>(0≤y∧y≤70)∧iH y v) (λ(y:Int) _=>(70-y).toNat) (sY c) h ⟨by decide,L5 (yJ hm hc.1 hc.2)⟩ ?_;rintro K (i:Int) v w ⟨hir,hv⟩ h next
  refine ae (λc=>?_) λc=>au.aE rfl h.fV;have c:i<((r4.len:Nat):Int):=bJ c;have hi:i.toNat<ps.length∧i.toNat<(70:Int).toNat:=by
   have:(70:Int).toNat=70:=rfl;omega
  have hwi:IntKind.i64.wrap (i+1)=i+1:=wi (by omega) (by omega);obtain⟨p,hpi⟩:∃p,ps[i.toNat]?=some p:=⟨_,jG hi.1⟩;have hdi:=IU hpi hi.2;have hdm:((ga 70 ps).map Prod.fst)[i.toNat]?=some (rh p.1):=by rw[oD,hdi];rfl
  have hlt:i.toNat<((ga 70 ps).map Prod.fst).length:=(gJ.1 hdm).1;have hO:=hp p (kQ hpi);have hx6:(p.2.take 6).length≤4294967296:=by rw[fM];omega
  haveI:=QS hpi
  have hdl:=(h.rd (s:=dR p.1)).2
  haveI:=PV p (rl (λp:BA=>ba (dR p.1) KR p.2) ps) hO.cp hdl
  obtain⟨g,hg⟩:∃g,g=rh p.1:=⟨_,rfl⟩;obtain⟨xs,hxs⟩:∃xs,xs=p.2.take 6:=⟨_,rfl⟩;have hD:=K6 hO;rw[←hg]at hD this hdm;rw[←hxs]at hx6 this;have hv':=K_ hv (by omega) hD xs;have hsm:=TK hv g xs;refine bR (s:=r4) h hir.1 hlt (dW h r4 i.toNat hdm rfl ?_);refine bI (A:=dy b v) (Q:=ba (dR g) KR xs) (La b i v hv (by omega) g hD xs hx6) h λr w h=>?_;obtain⟨⟨r1,e1⟩,hre⟩:∃x:Ks.T oe×Int,x=r:=⟨r,rfl⟩;rw[←hre]at h⊢;obtain⟨hr1,h⟩:=h.aB;dsimp only at hr1 h⊢;rw[hr1];refine aA h λn17 w h=>aw h (by rfl) λw h=>?_;refine bR (s:=r4) h hir.1 hlt (dW h r4 i.toNat hdm rfl ?_);refine bI (A:=cY m v) (Q:=ba (dR g) KR xs) (PY m i v hv (by omega) g hD xs hx6) h λr w h=>?_;obtain⟨⟨r2,e2⟩,hre⟩:∃x:Ks.T oe×Int,x=r:=⟨r,rfl⟩;rw[←hre]at h⊢;obtain⟨hr2,h⟩:=h.aB;dsimp only at hr2 h⊢;rw[hr2];refine aA h λn21 w h=>aw h (by rfl) λw h=>?_;have h:au w0 S R w (oc r1 (mH v g xs).1.1^oc r2 (mH v g xs).1.1^ah n17 (Ks.mk oe r1)^ah n21 (Ks.mk oe r2)^dy b (mH v g xs).2^cY m (mH v g xs).2^aP r4 KD ((ga 70 ps).map Prod.fst)^u7 s ps):=h.aG;refine ar (b:=n17) (x:=r1) h rfl (ar (b:=n21) (x:=r2) h rfl ?_);obtain⟨h1,h⟩:=h.oc r1;obtain⟨h2,h⟩:=h.oc r2;obtain⟨o,ho⟩:∃o,o=(mH v g xs).1.1:=⟨_,rfl⟩;rw[←ho]at h h1 h2 hsm;have h:au w0 S R w (aT^aP r1.1 KS o.oa^aP r1.2.1 KS o.dr^aP r1.2.2.1 qk.KI o.ft^aP r2.1 KS o.oa^aP r2.2.1 KS o.dr^aP r2.2.2.1 qk.KI o.ft^dy b (mH v g xs).2^cY m (mH v g xs).2^aP r4 KD ((ga 70 ps).map Prod.fst)^u7 s ps):=(h.le ((aF _).trans (aV _ _))).aG;refine bI (A:=aT) (Q:=(ba r1.1 KS o.oa^ba r1.2.1 KS o.dr^ba r1.2.2.1 qk.KI o.ft)^ba r2.1 KS o.oa^ba r2.2.1 KS o.dr^ba r2.2.2.1 qk.KI o.ft) (Mk r1 r2 o o ⟨by have:=hsm.a;omega,by have:=hsm.b;omega,by have:=hsm.c;omega⟩ h1 h2) h λr w h=>?_;obtain⟨hr,h⟩:=h.aB;rw[hr.2 rfl];refine ae (λc=>absurd c (by simp)) λ_=>?_;have h:au w0 S R w ((dy b (mH v g xs).2^cY m (mH v g xs).2)^aP r4 KD ((ga 70 ps).map Prod.fst)^u7 s ps):=(h.aG (A:=dy b (mH v g xs).2^cY m (mH v g xs).2^aP r4 KD ((ga 70 ps).map Prod.fst)^u7 s ps)).le (cM _ _ _);refine af (Iu b m (i+1) (mH v g xs).2 hv') h λr w h=>?_;obtain⟨hr,h⟩:=h.aB;rw[hr];refine ae (λc=>(by cases c)) λ_=>?_;rw[hwi];exact next (i+1) (mH v g xs).2 w ⟨by omega,hv'⟩ h.aG (by omega)
end WY

end Go.X
