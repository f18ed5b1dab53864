/- Contracts and plain facts: Board Target BbrP BbrW BbrQ. -/
import Derived.Test.YtaimlgfepkopkaaGreatB4
set_option linter.all false
namespace Go.X
open Go.Proofs
namespace eA
abbrev Pc:=Ks.T aD
def km(b:Nat)(v:List Pc×Int):SP:=ex λs=>ah b [.sl s,.int .u64 v.2]^aP s aD v.1
abbrev BB:=Ks.T bZ
def t9(f t:Int)(s:BB):Pc:=(f,t,s.1,s.2.1,s.2.2.1,s.2.2.2.1,s.2.2.2.2,false,false)
def dP(v:List Pc×Int)(f t:Int)(s:BB):Int×(List Pc×Int):=
 if f≠v.2∨t≤f then(1,v)else if 4096≤v.1.length then(5,v)else(0,(v.1++[t9 f t s],t))
instance(b:Nat)(v:List Pc×Int):qq (km b v):=by unfold km;infer_instance
theorem _root_.Go.X.au.km{w0 w:World}{S0 R0:Nat→Prop}{F G:SP}{v:List Pc×Int}(h:au w0 S0 R0 w F)(b:Nat)[t:mR eA.km b F v G]:∃s,au w0 S0 R0 w (ah b [.sl s,.int .u64 v.2]^aP s aD v.1^G):=by
 obtain⟨s,h⟩:=(h.le t.le).lX;exact⟨s,h.le (cy _ _ _)⟩
theorem _root_.Go.X.au.oy{w0 w:World}{S0 R0:Nat→Prop}{F G:SP}(h:au w0 S0 R0 w F)(b:Nat)(s:Sl)(l:List Pc)(e:Int)[t:Take (ah b [.sl s,.int .u64 e]^aP s aD l) F G]:au w0 S0 R0 w (eA.km b (l,e)^G):=
 (h.le t.le).s_ (f:=λs=>ah b [.sl s,.int .u64 e]^aP s aD l) s
theorem jj:bm RG aT (λr=>ex λb=>bh (r=some ⟨b,0⟩) (km b ([],0))):=
 br λw S R h=>by
  refine aA h λn1 w h=>?_;exact au.gX n1 (au.aE rfl ((h.nil aD).oy n1 ⟨none,0,0⟩ [] 0).bk)
theorem rT(b:Nat)(f t:Int)(s:BB)(v:List Pc×Int):
  bm (Dt (some ⟨b,0⟩) f t s) (km b v)
   (λr=>bh (r=(dP v f t s).1) (km b (dP v f t s).2)):=
 br λw S R h=>by
  refine aA h λn1 w h=>?_;refine ae (by simp) λ_=>?_;obtain⟨sl,h⟩:=h.km b;have hlen:=(h.rd (s:=sl)).2;refine ac (aj h rfl ?_);refine ae (λhc=>?_) λhc=>?_
  ·have e1:dP v f t s=(1,v):=(by simp at hc;simp[dP,hc]);rw[e1];exact au.aE rfl (h.oy b sl v.1 v.2).bk
  ·refine ac (aj h rfl ?_);refine ae (λhc2=>?_) λhc2=>?_
   ·have e1:dP v f t s=(5,v):=by
     simp at hc hc2;rw[dP,ay (by omega),aC (by omega)]
    rw[e1];exact au.aE rfl (h.oy b sl v.1 v.2).bk
   ·have e1:dP v f t s=(0,(v.1++[t9 f t s],t)):=by
     simp at hc hc2;rw[dP,ay (by omega),ay (by omega)]
    rw[e1];refine aH h λw h=>?_;refine aj h rfl ?_;refine ac (aj h rfl ?_);refine aA h λn9 w h=>?_;refine aI h rfl ?_;have h:=h.cT n9 aD [t9 f t s] rfl (by simp);refine dE h rfl (by simp at hc2⊢;omega) λs10 w hl h=>?_;refine ac (aU h rfl λw h=>?_);dsimp only[dj,over]at h;refine ac (aU h rfl λw h=>?_);dsimp only[dj,over]at h;exact au.aE rfl (h.oy b s10 (v.1++[t9 f t s]) t).bk
theorem CH(s:Sl)(f:Fv)(C:SP)(xs:List (Ks.T KR))(p:Ks.T KR→Bool)(hl:xs.length≤4294967296)(hf:∀x∈xs,xo Tryz.prog f [.agg (Ks.mk KR x)] [.lf .bool] C (λr=>bh (r=p x) C)):
  bm (Tt s f) (C^ba s KR xs) (λr=>bh (r=fI p xs) C):=
 br λw S R h=>by
  have hsl:=(h.rd (s:=s)).2;refine cS (λ_=>C^ba s KR xs) (λ(y:Int)=>0≤y∧y.toNat≤xs.length∧∀j y',j<y.toNat→xs[j]?=some y'→p y'=false) (λ(y:Int)=>xs.length-y.toNat) h ⟨ku 0,by simp,λj _ hj=>by simp at hj⟩ ?_;rintro(y:Int) w ⟨h0,h1,h2⟩ h;refine ae (λc=>?_) λc=>?_
  ·have hy:y.toNat<xs.length:=(by simp at c;omega);refine bR h h0 hy ?_;refine eU h s y.toNat 0 _ (bT hy) rfl (by decide) (H9 (ks:=KR)) ?_;refine np (hf _ (tu hy)) h λr w h=>?_;obtain⟨hr,h⟩:=h.aB;have hw:IntKind.i64.wrap (y+1)=y+1:=wi (by omega) (by omega);refine ae (λc=>?_) λc=>?_
   ·refine au.aE ?_ h.aG;rw[DK (bT hy) (by rw[←hr];exact c) h2];exact(zc h0).symm
   ·rw[hw];refine⟨⟨⟨(by show(0:Int)≤y+1;omega),(by show(y+1).toNat≤_;omega),λj y' hj hy'=>?_⟩,h⟩,(by show _-(y+1).toNat<_;omega)⟩;have hj:j<(y+1).toNat:=hj;by_cases hjy:j=y.toNat
    ·subst hjy;rw[bT hy]at hy';cases hy';rw[←hr];exact c
    ·exact h2 j y' (by omega) hy'
  ·refine au.aE ?_ h.aG;rw[uH];intro x hx;obtain⟨j,hj,rfl⟩:=Bi.1 hx;refine h2 j _ ?_ (bT hj);simp at c;omega
theorem qD(s:Sl)(f:Fv)(C:SP)(xs:List (Ks.T KR))(p:Ks.T KR→Bool)(hl:xs.length≤4294967296)(hf:∀x∈xs,xo Tryz.prog f [.agg (Ks.mk KR x)] [.lf .bool] C (λr=>bh (r=p x) C)):
  bm (OT s f) (C^ba s KR xs) (λr=>bh (r=xs.any p) C):=
 br λw S R h=>by
  refine af (CH s f C xs p hl hf) h λr w h=>?_;obtain⟨hr,h⟩:=h.aB;rw[hr];exact au.aE (Ll p xs) h.bk
def uV(n:Nat):Fv:=.mk (.func gE) [] [V1.enc (.lf (.ptr (some ⟨n,0⟩)))]
theorem iJ(b:Nat):bm (Ok (some ⟨b,0⟩)) aT (λf=>ex λn=>bh (f=uV n) (ah n [.ptr (some ⟨b,0⟩)])):=
 br λw S R h=>by
  refine aA h λn1 w h=>?_;exact au.gX n1 (au.aE rfl h.bk)
theorem lq(n b:Nat)(v:List Pc×Int)(hl:v.1.length≤4294967296):Iter Tryz.prog (uV n) (ah n [.ptr (some ⟨b,0⟩)]^km b v) [.agg aD] v.1:=by
 intro y I D hy;refine xW.g (f:=gE) (args:=[.lf (.fn y)]) (caps:=[.lf (.ptr (some ⟨n,0⟩))]) (br (c:=Sq y ⟨n,0⟩) λw S R h=>?_);refine aj h rfl ?_;refine ae (λc=>(by cases c)) λc=>?_;refine aj h rfl ?_;obtain⟨s,h⟩:=h.km b;have hs:=(h.rd (s:=s)).2;refine ac (aj h rfl ?_);have h:au _ _ _ _ (ah b [.sl s,.int .u64 v.2]^aP s aD v.1^ah n [.ptr (some ⟨b,0⟩)]^I 0):=h.aG;refine cS (λ(y:Int)=>ah b [.sl s,.int .u64 v.2]^aP s aD v.1^ah n [.ptr (some ⟨b,0⟩)]^I y.toNat) (λ(y:Int)=>0≤y∧y.toNat≤v.1.length) (λ(y:Int)=>v.1.length-y.toNat) h ⟨ku 0,by simp⟩ ?_;rintro(i:Int) w ⟨h0,h1⟩ h;refine ae (λc=>?_) λc=>?_
 ·have hi:i.toNat<v.1.length:=by simp at c;omega
  refine bR h h0 hi ?_;refine dW h s i.toNat (bT hi) rfl ?_;refine aA h λn9 w h=>?_;refine aw h (by rfl) λw h=>?_;refine ar h rfl ?_;refine np (hy i.toNat _ (bT hi)) h λr w h=>?_;refine ae (λc=>?_) λc=>?_
  ·have hr:r=false:=bV;rw[hr]at h;have h:au _ _ _ _ (D^_):=h;have h:=(h.xz (I v.1.length)).oy b s v.1 v.2;exact h.aG
  ·have hr:r=true:=bV;rw[hr]at h;have h:au _ _ _ _ (I (i.toNat+1)^_):=h;rw[wi (by omega) (by omega)];have e:(i+1).toNat=i.toNat+1:=(by omega);refine⟨⟨⟨(by show(0:Int)≤i+1;omega),(by show(i+1).toNat≤_;omega)⟩,?_⟩,(by show _-(i+1).toNat<_;omega)⟩;show au _ _ _ _ (ah b [.sl s,.int .u64 v.2]^aP s aD v.1^ah n [.ptr (some ⟨b,0⟩)]^I (i+1).toNat);rw[e];exact h.aG
 ·have hi:i.toNat=v.1.length:=by simp at c;omega
  rw[hi]at h;have h:=h.take (I v.1.length);have h:=(h.uE D).oy b s v.1 v.2;exact h.aG
abbrev iA(p:Pc):Int:=p.1
abbrev w8(p:Pc):Int:=p.2.1
abbrev xI(p:Pc):Bool:=p.2.2.2.2.2.2.2.1
abbrev jr(p:Pc):Bool:=p.2.2.2.2.2.2.2.2
def kW(p:Pc):Bool:=!xI p&&!jr p
theorem tQ(p:Pc):bm (Ko p) aT (λr=>bh (r=kW p) aT):=
 br λw S R h=>by
  refine aA h λn1 w h=>?_;refine aj h rfl ?_;refine ae (λc=>?_) λc=>?_
  ·refine aj h rfl ?_;refine au.aE ?_ h.aG;show(!jr p)=kW p;have c:(!xI p)=true:=c;simp[kW,c]
  ·refine au.aE ?_ h.aG;have c:(!xI p)=false:=c;simp[kW,c]
def tJ(n:Int)(p:Pc):Int:=if kW p then IntKind.u64.wrap (n+IntKind.u64.wrap (w8 p-iA p))else n
def dh(l:List Pc):Int:=l.foldl tJ 0
theorem ov{l:List Pc}{i:Nat}{x:Pc}(h:l[i]?=some x):dh (l.take (i+1))=tJ (dh (l.take i)) x:=by
 rw[lF,h];simp[dh]
theorem pR(b:Nat)(v:List Pc×Int)(hl:v.1.length≤4294967296):bm (XS (some ⟨b,0⟩)) (km b v) (λr=>bh (r=dh v.1) (km b v)):=
 Q3 λw S R h=>by
  refine aA h λn1 w h=>?_;refine aU h rfl λw h=>?_;dsimp only[dj,over]at h;refine af (iJ b) (h.le (aF _)) λf w h=>?_;obtain⟨n,h⟩:=h.lX;obtain⟨hf,h⟩:=h.aB;rw[hf];have h:=h.take (ah n1 [.int .u64 0]);have h:au _ _ _ _ (ah n1 [.int .u64 (dh (v.1.take 0))]^_):=h;refine oF (lq n b v hl) (λi=>ah n1 [.int .u64 (dh (v.1.take i))]) (λ_=>bh False aT) h ?_ ?_ ?_
  ·intro i x hx w S R A4 next jump rdy bsy hmid hnext hjump h
   refine aA h λn7 w h=>?_;refine aw h (by rfl) λw h=>?_;refine hmid h λw h=>?_;refine ar h rfl ?_;refine af (tQ x) h λr w h=>?_;obtain⟨hr,h⟩:=h.aB;refine ae (λc=>?_) λc=>?_
   ·refine aj h rfl ?_;refine aj h rfl ?_;refine aj h rfl ?_;refine aU h rfl λw h=>?_;dsimp only[dj,over]at h;have e:dh (v.1.take (i+1))=IntKind.u64.wrap (dh (v.1.take i)+IntKind.u64.wrap (w8 x-iA x)):=by
     rw[ov hx,tJ,aC (by rw[←hr];exact c)]
    rw[←e]at h;exact hnext h
   ·have e:dh (v.1.take (i+1))=dh (v.1.take i):=by
     rw[ov hx,tJ,ay (by rw[←hr,c];simp)]
    rw[←e]at h;exact hnext h
  ·intro w h;have h:=h.take (ah n1 [.int .u64 (dh (v.1.take v.1.length))]);refine aj h rfl ?_;refine aN h λw h=>?_;rw[rK];exact au.aE rfl h.aG
  ·intro j w hj h;exact(h.take (bh False aT)).aB.1.elim
def dm(e:Int)(r:Int×Int):Bool:=decide (r.2>e)||decide (r.1≥r.2)
theorem LY(r:Int×Int)(n b:Nat)(v:List Pc×Int):bm (Vq r ⟨n,0⟩) (ah n [.ptr (some ⟨b,0⟩)]^km b v) (λx=>bh (x=dm v.2 r) (ah n [.ptr (some ⟨b,0⟩)]^km b v)):=
 br λw S R h=>by
  refine aA h λn1 w h=>?_;refine aH h λw h=>?_;refine aj h rfl ?_;refine aj h rfl ?_;obtain⟨s,h⟩:=h.km b;refine ac (aj h rfl ?_);have h:=h.oy b s v.1 v.2;refine ae (λc=>?_) λc=>?_
  ·refine au.aE ?_ h.aG;simp at c;simp[dm,c]
  ·refine aj h rfl ?_;refine aj h rfl ?_;refine au.aE ?_ h.aG;simp at c;simp[dm];intro;omega
def tZ(v:List Pc×Int)(upto:Int)(xs:List (Int×Int)):Bool:=decide (upto≤v.2)&&!xs.any (dm v.2)
theorem nh(b:Nat)(v:List Pc×Int)(upto:Int)(s:Sl)(xs:List (Ks.T KR))(hl:xs.length≤4294967296):
  bm (SO (some ⟨b,0⟩) upto s) (km b v^ba s KR xs) (λx=>bh (x=tZ v upto xs) (km b v)):=
 br λw S R h=>by
  refine aA h λn1 w h=>?_;refine aj h rfl ?_;obtain⟨s',h⟩:=h.km b;refine ac (aj h rfl ?_);have h:=h.oy b s' v.1 v.2;refine ae (λc=>?_) λc=>?_
  ·refine af (qD s _ (ah n1 [.ptr (some ⟨b,0⟩)]^km b v) xs (dm v.2) hl (λx _=>(xW.g (f:=mh) (args:=[.agg (Ks.mk KR x)]) (caps:=[.lf (.ptr (some ⟨n1,0⟩))]) (LY x n1 b v)).v)) h λr w h=>?_;obtain⟨hr,h⟩:=h.aB;refine au.aE ?_ h.aG;simp at c;simp[tZ,c,hr]
  ·refine au.aE ?_ h.aG;simp at c;simp[tZ];intro;omega
def sX(p:Pc)(r:Int×Int):Bool:=decide (r.1≤p.1)&&decide (r.2≥p.2.1)
theorem FJ(r:Int×Int)(n:Nat)(p:Pc):bm (Vr r ⟨n,0⟩) (ah n (Ks.mk aD p)) (λx=>bh (x=sX p r) (ah n (Ks.mk aD p))):=
 br λw S R h=>by
  refine aA h λn1 w h=>?_;refine aj h rfl ?_;refine aj h rfl ?_;refine ae (λc=>?_) λc=>?_
  ·refine aj h rfl ?_;refine aj h rfl ?_;refine au.aE ?_ h.aG;simp at c;simp[sX,c]
  ·refine au.aE ?_ h.aG;simp at c;simp[sX];intro;omega
theorem I4(p:Pc)(s:Sl)(xs:List (Ks.T KR))(hl:xs.length≤4294967296):
  bm (SQ s p) (aT^ba s KR xs) (λx=>bh (x=xs.any (sX p)) aT):=
 br λw S R h=>by
  refine aA h λn1 w h=>?_;refine af (qD s _ (ah n1 (Ks.mk aD p)) xs (sX p) hl (λx _=>(xW.g (f:=oV) (args:=[.agg (Ks.mk KR x)]) (caps:=[.lf (.ptr (some ⟨n1,0⟩))]) (FJ x n1 p)).v)) h λr w h=>?_;obtain⟨hr,h⟩:=h.aB;exact au.aE hr h.aG
def gV(p:Pc)(x:Bool):Pc:=(p.1,p.2.1,p.2.2.1,p.2.2.2.1,p.2.2.2.2.1,p.2.2.2.2.2.1,p.2.2.2.2.2.2.1,p.2.2.2.2.2.2.2.1,x)
def xY(p:Pc)(a:Int):Int:=if xI p then IntKind.i64.wrap (a+1)else a
def vZ(p:Pc)(a:Int):Bool:=kW p&&decide (xY p a≥3)
def cm:List Pc→List Pc×Int×Int
 |[]=>([],0,0)
 |p::l=>let r:=cm l
  (if vZ p r.2.2 then gV p true::r.1 else p::r.1,if vZ p r.2.2 then IntKind.u64.wrap (r.2.1+IntKind.u64.wrap (p.2.1-p.1))else r.2.1,xY p r.2.2)
theorem Ec:∀l:List Pc,(cm l).1.length=l.length
 |[]=>rfl
 |p::l=>by simp only[cm];split<;>simp[Ec l]
theorem F0(b:Nat)(v:List Pc×Int)(hl:v.1.length≤4294967296):
  bm (SR (some ⟨b,0⟩)) (km b v) (λx=>bh (x=(cm v.1).2.1) (km b ((cm v.1).1,v.2))):=
 br λw S R h=>by
  obtain⟨s,h⟩:=(h.le (aF _)).km b;have hs:=(h.rd (s:=s)).2;refine ac (aj h rfl ?_);rw[wi (n:=((s.len:Nat):Int)-1) (by omega) (by omega)];have e0:v.1.take (((s.len:Nat):Int)-1+1).toNat++(cm (v.1.drop (((s.len:Nat):Int)-1+1).toNat)).1=v.1:=by
   have e:(((s.len:Nat):Int)-1+1).toNat=v.1.length:=(by omega);rw[e];simp[cm]
  have e1:cm (v.1.drop (((s.len:Nat):Int)-1+1).toNat)=([],0,0):=by
   have e:(((s.len:Nat):Int)-1+1).toNat=v.1.length:=(by omega);rw[e];simp[cm]
  have h:=h.take (ah b [.sl s,.int .u64 v.2]^aP s aD v.1);have h:=h.bk;refine cS (λ(y:Int×Int×Int)=>ah b [.sl s,.int .u64 v.2]^aP s aD (v.1.take (y.2.2+1).toNat++(cm (v.1.drop (y.2.2+1).toNat)).1))
   (λ(y:Int×Int×Int)=>(-1≤y.2.2∧y.2.2<v.1.length)∧y.1=(cm (v.1.drop (y.2.2+1).toNat)).2.1∧y.2.1=(cm (v.1.drop (y.2.2+1).toNat)).2.2) (λ(y:Int×Int×Int)=>(y.2.2+1).toNat) (by rw[e0];exact h) ⟨⟨by show(-1:Int)≤_-1;omega,by show((s.len:Nat):Int)-1<_;omega⟩,by rw[e1],by rw[e1]⟩ ?_
  rintro(⟨be,above,i⟩:Int×Int×Int) w ⟨⟨h0,h1⟩,h2,h3⟩ h;dsimp only at h0 h1 h2 h3 h⊢;refine ae (λc=>?_) λc=>?_
  ·have c:0≤i:=bV;obtain⟨k,hk⟩:∃k:Nat,i=k:=⟨i.toNat,by omega⟩;have hk1:(i+1).toNat=k+1:=(by omega);have hk0:i.toNat=k:=(by omega);have hkl:k<v.1.length:=(by omega);rw[hk1]at h2 h3 h;obtain⟨p,hp⟩:∃p,v.1[k]?=some p:=⟨_,bT hkl⟩;have hd:=pP hp;obtain⟨xs,hxs⟩:∃xs,xs=v.1.take (k+1)++(cm (v.1.drop (k+1))).1:=⟨_,rfl⟩;have hxk:xs[i.toNat]?=some p:=by
    rw[hk0,hxs,oB (by rw[fM];omega),oC,aC (by omega),hp]
   have hxl:i.toNat<xs.length:=(gJ.1 hxk).1;rw[←hxs]at h;have hpass:cm (v.1.drop k)=(if vZ p above then gV p true::(cm (v.1.drop (k+1))).1 else p::(cm (v.1.drop (k+1))).1,if vZ p above then IntKind.u64.wrap (be+IntKind.u64.wrap (p.2.1-p.1))else be,xY p above):=by
    rw[hd,cm,h2,h3]
   refine ac (aj h rfl ?_);refine bR h c hxl ?_;refine aK h (λ_=>ah b [.sl s,.int .u64 v.2]^aP s aD xs) (λ(y:Int)=>y=xY p above) (λ(y:Int) w hy h=>?_) ?_
   ·refine ac (dW h s i.toNat hxk rfl ?_);refine af (tQ p) h λr w h=>?_;obtain⟨hr,h⟩:=h.aB;have hw:IntKind.i64.wrap (i-1)=i-1:=wi (by omega) (by omega);have hhit:(r&&decide (y≥3))=vZ p above:=by rw[hr,hy];rfl
    have hk2:(i-1+1).toNat=k:=(by omega);have ht:v.1.take (k+1)=v.1.take k++[p]:=(by rw[lF,hp];rfl);have hlt:(v.1.take k).length=k:=(by rw[fM];omega);refine ae (λc2=>?_) λc2=>?_
    ·rw[hhit]at c2;rw[c2]at hpass;simp only[gU]at hpass;refine ac (lT h s i.toNat 8 p (gV p true) hxk rfl (by decide) (by simp) rfl λw h=>?_);have hset:xs.set i.toNat (gV p true)=v.1.take k++(cm (v.1.drop k)).1:=by
      rw[hpass,hxs,hk0,ht,kR,F_ _ _ (by omega),hlt];simp
     have hx2:(xs.set i.toNat (gV p true))[i.toNat]?=some (gV p true):=(by rw[rJ hxl]);refine aH h λw h=>?_;refine ac (ac ?_);refine eU h s i.toNat 1 _ hx2 rfl (by decide) rfl ?_;refine eU h s i.toNat 0 _ hx2 rfl (by decide) rfl ?_;rw[hw];refine⟨⟨⟨⟨by show(-1:Int)≤i-1;omega,by show i-1<_;omega⟩,?_,?_⟩,?_⟩,by show(i-1+1).toNat<(i+1).toNat;omega⟩
     ·show _=(cm (v.1.drop (i-1+1).toNat)).2.1;rw[hk2,hpass];rfl
     ·show y=(cm (v.1.drop (i-1+1).toNat)).2.2;rw[hk2,hpass];exact hy
     ·show au _ _ _ _ (ah b [.sl s,.int .u64 v.2]^aP s aD (v.1.take (i-1+1).toNat++(cm (v.1.drop (i-1+1).toNat)).1));rw[hk2,←hset];exact h.aG
    ·rw[hhit]at c2;rw[c2]at hpass;simp only[iW,iX]at hpass;rw[hw];have hsame:xs=v.1.take k++(cm (v.1.drop k)).1:=by rw[hpass,hxs,ht];simp
     refine⟨⟨⟨⟨by show(-1:Int)≤i-1;omega,by show i-1<_;omega⟩,?_,?_⟩,?_⟩,by show(i-1+1).toNat<(i+1).toNat;omega⟩
     ·show _=(cm (v.1.drop (i-1+1).toNat)).2.1;rw[hk2,hpass]
     ·show y=(cm (v.1.drop (i-1+1).toNat)).2.2;rw[hk2,hpass];exact hy
     ·show au _ _ _ _ (ah b [.sl s,.int .u64 v.2]^aP s aD (v.1.take (i-1+1).toNat++(cm (v.1.drop (i-1+1).toNat)).1));rw[hk2,←hsame];exact h.aG
   ·refine ac (eU h s i.toNat 7 p hxk rfl (by decide) rfl ?_);refine ae (λc2=>?_) λc2=>?_
    ·exact⟨by have c2:xI p=true:=c2;simp[xY,c2],h⟩
    ·exact⟨by have c2:xI p=false:=c2;simp[xY,c2],h⟩
  ·have c:i=-1:=(by simp at c;omega);rw[c]at h2 h3 h;simp only[show((-1:Int)+1).toNat=0 from rfl,wk,Cw,oE]at h2 h;refine au.aE h2 ?_;exact(h.oy b s (cm v.1).1 v.2).aG
def xj(p:Pc):Pc:=(p.1,p.2.1,p.2.2.1,p.2.2.2.1,p.2.2.2.2.1,p.2.2.2.2.2.1,p.2.2.2.2.2.2.1,true,false)
def rW(upto:Int)(xs:List (Int×Int))(p:Pc):Bool:=!xI p&&(decide (p.2.1≤upto)||xs.any (sX p))
def ox(upto:Int)(xs:List (Int×Int))(p:Pc):Pc:=if rW upto xs p then xj p else p
def fD(upto:Int)(xs:List (Int×Int))(l:List Pc):List Pc:=l.filter (rW upto xs)
def eD(upto:Int)(xs:List (Int×Int))(l:List Pc):List Pc:=(l.filter (λp=>!decide (p.2.1≤upto))).map (ox upto xs)
theorem zZ{upto:Int}{xs:List (Int×Int)}{l:List Pc}{k:Nat}{p:Pc}(h:l[k]?=some p):fD upto xs (l.take (k+1))=fD upto xs (l.take k)++(if rW upto xs p then [p]else []):=by
 rw[lF,h,fD,Cm,fD];congr 1;simp[zg]
theorem zN{upto:Int}{xs:List (Int×Int)}{l:List Pc}{k:Nat}{p:Pc}(h:l[k]?=some p):eD upto xs (l.take (k+1))=eD upto xs (l.take k)++(if p.2.1≤upto then []else [ox upto xs p]):=by
 rw[lF,h,eD,Cm,rO,eD];congr 1;by_cases hc:p.2.1≤upto<;>simp[hc]
theorem Bs(upto:Int)(xs:List (Int×Int))(l:List Pc)(k:Nat):(fD upto xs (l.take k)).length≤k:=lQ (y_ _ _) (by rw[fM];omega)
theorem pA(upto:Int)(xs:List (Int×Int))(l:List Pc)(k:Nat):(eD upto xs (l.take k)).length≤k:=by rw[eD,kT];exact lQ (y_ _ _) (by rw[fM];omega)
theorem Di(b:Nat)(v:List Pc×Int)(upto:Int)(s:Sl)(xs:List (Ks.T KR))(hx:xs.length≤4294967296)(hm:tZ v upto xs=false):
  bm (OA (some ⟨b,0⟩) upto s) (km b v^ba s KR xs) (λr=>bh (r.1=⟨none,0,0⟩∧r.2.1=0∧r.2.2=11) (km b v)):=
 br λw S R h=>by
  refine ae (λc=>(by cases c)) λc=>?_;refine bI (nh b v upto s xs hx) h λr w h=>?_;obtain⟨hr,h⟩:=h.aB;refine ae (λc=>?_) λc=>?_
  ·exact au.aE ⟨rfl,rfl,rfl⟩ h.aG
  ·rw[hr,hm]at c;cases c
theorem NZ(b:Nat)(v:List Pc×Int)(upto:Int)(a:Sl)(xs:List (Ks.T KR))(hl:v.1.length≤4294967295)(hx:xs.length≤4294967296)(hm:tZ v upto xs=true):
  bm (OA (some ⟨b,0⟩) upto a) (km b v^ba a KR xs)
   (λr=>bh (r.2.1=(cm (eD upto xs v.1)).2.1∧r.2.2=0) (aP r.1 aD (fD upto xs v.1)^km b ((cm (eD upto xs v.1)).1,v.2))):=
 br λw S R h=>by
  refine ae (λc=>(by cases c)) λc=>?_;refine bI (Q:=ba a KR xs) (nh b v upto a xs hx) h λr w h=>?_;obtain⟨hr,h⟩:=h.aB;refine ae (λc=>by rw[hr,hm]at c;cases c) λc=>?_;obtain⟨s,h⟩:=h.km b;have hs:=(h.rd (s:=s)).2;refine ac (aj h rfl ?_);have h:=(h.nil aD);have h:=(h.nil aD);have h:=(h.take (ah b [.sl s,.int .u64 v.2]^aP s aD v.1^aP ⟨none,0,0⟩ aD []^aP ⟨none,0,0⟩ aD []^ba a KR xs)).bk;refine cS (λ(y:Sl×Sl×Int)=>ah b [.sl s,.int .u64 v.2]^aP s aD v.1^aP y.1 aD (fD upto xs (v.1.take y.2.2.toNat))^aP y.2.1 aD (eD upto xs (v.1.take y.2.2.toNat))^ba a KR xs)
   (λ(y:Sl×Sl×Int)=>0≤y.2.2∧y.2.2.toNat≤v.1.length) (λ(y:Sl×Sl×Int)=>v.1.length-y.2.2.toNat) h ⟨ku 0,kv _⟩ ?_
  rintro(⟨ts,rs,i⟩:Sl×Sl×Int) w ⟨h0,h1⟩ h;dsimp only at h0 h1 h⊢;refine ae (λc=>?_) λc=>?_
  ·have hi:i.toNat<v.1.length:=(by simp at c;omega);obtain⟨p,hp⟩:∃p,v.1[i.toNat]?=some p:=⟨_,bT hi⟩;have ht:=zZ (upto:=upto) (xs:=xs) hp;have hrt:=zN (upto:=upto) (xs:=xs) hp;have hw:IntKind.i64.wrap (i+1)=i+1:=wi (by omega) (by omega);have hi1:(i+1).toNat=i.toNat+1:=(by omega);refine bR h h0 hi ?_;refine dW h s i.toNat hp rfl ?_;refine aA h λn8 w h=>?_;refine aw h (by rfl) λw h=>?_;refine aj h rfl ?_;refine aK h (λ(y:Sl)=>ah n8 (Ks.mk aD (ox upto xs p))^ah b [.sl s,.int .u64 v.2]^aP s aD v.1^aP y aD (fD upto xs (v.1.take (i.toNat+1)))^aP rs aD (eD upto xs (v.1.take i.toNat))^ba a KR xs) (λ_=>True) (λ(y:Sl) w _ h=>?_) ?_
   ·refine ae (λc2=>?_) λc2=>?_
    ·have c2:p.2.1≤upto:=gk;rw[hw];rw[aC c2,rM]at hrt;refine⟨⟨⟨by show(0:Int)≤i+1;omega,by show(i+1).toNat≤_;omega⟩,?_⟩,by show _-(i+1).toNat<_;omega⟩;show au _ _ _ _ (ah b [.sl s,.int .u64 v.2]^aP s aD v.1^aP y aD (fD upto xs (v.1.take (i+1).toNat))^aP rs aD (eD upto xs (v.1.take (i+1).toNat))^ba a KR xs);rw[hi1,hrt];exact h.aG
    ·have c2:¬p.2.1≤upto:=gk;rw[ay c2]at hrt;refine ar h rfl ?_;refine aA h λn21 w h=>?_;have h:=h.cT n21 aD [ox upto xs p] rfl (by simp);have hlr:=pA upto xs v.1 i.toNat;refine dE (K:=aD) h rfl (by simp;omega) λs22 w hl2 h=>?_;rw[hw];refine⟨⟨⟨by show(0:Int)≤i+1;omega,by show(i+1).toNat≤_;omega⟩,?_⟩,by show _-(i+1).toNat<_;omega⟩;show au _ _ _ _ (ah b [.sl s,.int .u64 v.2]^aP s aD v.1^aP y aD (fD upto xs (v.1.take (i+1).toNat))^aP s22 aD (eD upto xs (v.1.take (i+1).toNat))^ba a KR xs);rw[hi1,hrt];exact h.aG
   ·refine aK h (λ_=>ah n8 (Ks.mk aD p)^ah b [.sl s,.int .u64 v.2]^aP s aD v.1^aP ts aD (fD upto xs (v.1.take i.toNat))^aP rs aD (eD upto xs (v.1.take i.toNat))^ba a KR xs) (λ(y:Bool)=>y=rW upto xs p) (λ(y:Bool) w hy h=>?_) ?_
    ·refine ae (λc2=>?_) λc2=>?_
     ·rw[c2]at hy;rw[←hy,aC rfl]at ht;have hmk:ox upto xs p=xj p:=by rw[ox,←hy];rfl
      refine ar h rfl ?_;refine aA h λn18 w h=>?_;have h:=h.cT n18 aD [p] rfl (by simp);have hlr:=Bs upto xs v.1 i.toNat;refine dE (K:=aD) h rfl (by simp;omega) λs19 w hl2 h=>?_;refine aU h rfl λw h=>?_;refine aU h rfl λw h=>?_;refine⟨trivial,?_⟩;rw[ht,hmk];have h:au _ _ _ _ (ah n8 (Ks.mk aD (xj p))^_):=h;exact h.aG
     ·rw[c2]at hy;rw[←hy]at ht;have hmk:ox upto xs p=p:=by rw[ox,←hy];rfl
      refine⟨trivial,?_⟩;rw[ht,hmk];simp only[iW,iX,rM];exact h.aG
    ·refine aj h rfl ?_;refine ae (λc2=>?_) λc2=>?_
     ·have c2:(!xI p)=true:=c2;refine ae (λc3=>?_) λc3=>?_
      ·exact⟨by have c3:decide (p.2.1≤upto)=true:=c3;simp[rW,c2,c3],h.aG⟩
      ·refine ar h rfl ?_;refine bI (A:=aT) (Q:=ba a KR xs) (I4 p a xs hx) h λr w h=>?_;obtain⟨hr2,h⟩:=h.aB;exact⟨by have c3:decide (p.2.1≤upto)=false:=c3;rw[hr2,rW,c2,c3];simp,h.aG⟩
     ·exact⟨by have c2:(!xI p)=false:=c2;simp[rW,c2],h.aG⟩
  ·have hi:i.toNat=v.1.length:=(by simp at c;omega);rw[hi,rK]at h;refine ac (aU h rfl λw h=>?_);dsimp only[dj,over]at h;have h:=h.oy b rs (eD upto xs v.1) v.2;have hrl:(eD upto xs v.1).length≤4294967296:=by
    have:=pA upto xs v.1 v.1.length;rw[rK]at this;omega
   refine af (F0 b (eD upto xs v.1,v.2) hrl) h λr w h=>?_;obtain⟨hr2,h⟩:=h.aB;exact au.aE ⟨hr2,rfl⟩ h.aG
abbrev s0:BB:=(0,0,0,0,false)
def pK(z:Int)(k:Nat):Pc:=t9 ((k:Int)*z) (((k:Int)+1)*z) ((k:Int),0,0,0,false)
def c1(z y:Int):List (Int×Int):=[(z+1,2*z+y),(2*z+1,3*z)]
def c2(z y:Int):List (Int×Int):=[(z,2*z+y)]
abbrev q1(z:Int):Pc:=xj (pK z 1)
def eX(p:Pc):Pc:=if kW p then gV p true else p
theorem LR(b:Nat)(v:List Pc×Int)(hl:v.1.length≤4294967296):bm (Se (some ⟨b,0⟩)) (km b v) (λr=>bh (r=dh v.1) (km b (v.1.map eX,v.2))):=
 br λw S R h=>by
  refine ae (λc=>(by cases c)) λc=>?_;obtain⟨s,h⟩:=h.km b;have hs:=(h.rd (s:=s)).2;refine ac (aj h rfl ?_);have h:=(h.take (ah b [.sl s,.int .u64 v.2]^aP s aD v.1)).bk;refine cS (λ(y:Int×Int)=>ah b [.sl s,.int .u64 v.2]^aP s aD ((v.1.take y.2.toNat).map eX++v.1.drop y.2.toNat)) (λ(y:Int×Int)=>(0≤y.2∧y.2.toNat≤v.1.length)∧y.1=dh (v.1.take y.2.toNat)) (λ(y:Int×Int)=>v.1.length-y.2.toNat) h ⟨⟨ku 0,kv _⟩,rfl⟩ ?_;rintro(⟨t,i⟩:Int×Int) w ⟨⟨h0,h1⟩,h2⟩ h;dsimp only at h0 h1 h2 h⊢;obtain⟨xs,hxs⟩:∃xs,xs=(v.1.take i.toNat).map eX++v.1.drop i.toNat:=⟨_,rfl⟩;rw[←hxs]at h;have hxl:xs.length=v.1.length:=by rw[hxs];simp;omega
  refine ae (λc=>?_) λc=>?_
  ·have hi:i.toNat<v.1.length:=(by simp at c;omega);obtain⟨p,hp⟩:∃p,v.1[i.toNat]?=some p:=⟨_,bT hi⟩;have hml:((v.1.take i.toNat).map eX).length=i.toNat:=(by simp;omega);have hxp:xs[i.toNat]?=some p:=by
    rw[hxs,tn (by omega),hml,pP hp];simp
   have hw:IntKind.i64.wrap (i+1)=i+1:=wi (by omega) (by omega);have hi1:(i+1).toNat=i.toNat+1:=(by omega);have hset:(v.1.take (i.toNat+1)).map eX++v.1.drop (i.toNat+1)=xs.set i.toNat (eX p):=by
    rw[hxs,F_ _ _ (by omega),hml,pP hp,lF,hp];simp
   have hft:=ov hp;refine bR h h0 (by omega) ?_;refine dW h s i.toNat hxp rfl ?_;refine aA h λn7 w h=>?_;refine aw h (by rfl) λw h=>?_;refine ar h rfl ?_;refine af (tQ p) h λr w h=>?_;obtain⟨hr,h⟩:=h.aB;refine ae (λc2=>?_) λc2=>?_
   ·have hf:kW p=true:=(by rw[←hr];exact c2);refine ac (aj h rfl ?_);refine bR h h0 (by omega) ?_;refine lT h s i.toNat 8 p (gV p true) hxp rfl (by decide) (by simp) rfl λw h=>?_;refine aj h rfl ?_;refine aj h rfl ?_;rw[hw];have hlp:eX p=gV p true:=(by rw[eX,aC hf]);refine⟨⟨⟨⟨by show(0:Int)≤i+1;omega,by show(i+1).toNat≤_;omega⟩,?_⟩,?_⟩,by show _-(i+1).toNat<_;omega⟩
    ·show _=dh (v.1.take (i+1).toNat);rw[hi1,hft,tJ,aC hf,h2]
    ·show au _ _ _ _ (ah b [.sl s,.int .u64 v.2]^aP s aD ((v.1.take (i+1).toNat).map eX++v.1.drop (i+1).toNat));rw[hi1,hset,hlp];exact h.aG
   ·have hf:kW p=false:=(by rw[←hr];exact c2);rw[hw];have hlp:eX p=p:=(by rw[eX,ay (by rw[hf];simp)]);refine⟨⟨⟨⟨by show(0:Int)≤i+1;omega,by show(i+1).toNat≤_;omega⟩,?_⟩,?_⟩,by show _-(i+1).toNat<_;omega⟩
    ·show t=dh (v.1.take (i+1).toNat);rw[hi1,hft,tJ,ay (by rw[hf];simp),h2]
    ·show au _ _ _ _ (ah b [.sl s,.int .u64 v.2]^aP s aD ((v.1.take (i+1).toNat).map eX++v.1.drop (i+1).toNat));have hself:xs.set i.toNat p=xs:=by
      obtain⟨hl2,he⟩:=gJ.1 hxp;rw[←he];exact List.set_getElem_self hl2
     rw[hi1,hset,hlp,hself];exact h.aG
  ·have hi:i.toNat=v.1.length:=(by simp at c;omega);rw[hi]at h2 hxs;simp at hxs h2;rw[hxs]at h;exact au.aE h2 (h.oy b s (v.1.map eX) v.2).aG
theorem LS(b:Nat)(v:List Pc×Int)(hl:v.1.length≤4294967296):bm (KH (some ⟨b,0⟩)) (km b v) (λr=>bh (r=fI jr v.1) (km b v)):=
 Q3 λw S R h=>by
  refine aA h λn1 w h=>?_;refine aA h λn2 w h=>?_;refine aU h rfl λw h=>?_;dsimp only[dj,over]at h;refine af (iJ b) (h.le (aF _)) λf w h=>?_;obtain⟨n,h⟩:=h.lX;obtain⟨hf,h⟩:=h.aB;rw[hf];have h:=(h.take (ah n1 [.int .i64 0]^ah n2 [.int .i64 ((0:Nat):Int)])).iF (p:=∀j y,j<0→v.1[j]?=some y→jr y=false) (λj y hj=>by omega);refine oF (lq n b v hl) (λi=>bh (∀j y,j<i→v.1[j]?=some y→jr y=false) (ah n1 [.int .i64 0]^ah n2 [.int .i64 (i:Int)])) (λj=>bh (j=1) (ah n1 [.int .i64 (fI jr v.1)])) h ?_ ?_ ?_
  ·intro i x hx w S R A4 next jump rdy bsy hmid hnext hjump h
   have hi:i<v.1.length:=(gJ.1 hx).1;refine aA h λn8 w h=>?_;refine aw h (by rfl) λw h=>?_;refine hmid h λw h=>?_;have h:=h.take (bh (∀j y,j<i→v.1[j]?=some y→jr y=false) (ah n1 [.int .i64 0]^ah n2 [.int .i64 (i:Int)]));obtain⟨hno,h⟩:=h.aB;refine aj h rfl ?_;refine ae (λc=>?_) λc=>?_
   ·refine aj h rfl ?_;refine aU h rfl λw h=>?_;dsimp only[dj,over]at h;have e:fI jr v.1=(i:Int):=DK hx c hno;rw[←e]at h;have h:=(h.take (ah n1 [.int .i64 (fI jr v.1)])).iF (p:=1=1) rfl;exact hjump 1 (by decide) h
   ·refine aj h rfl ?_;refine aU h rfl λw h=>?_;dsimp only[dj,over]at h;rw[wi (by omega) (by omega)]at h;have h:au _ _ _ _ (ah n2 [.int .i64 ((i+1:Nat):Int)]^_):=h;have h:=(h.take (ah n1 [.int .i64 0]^ah n2 [.int .i64 ((i+1:Nat):Int)])).iF (p:=∀j y,j<i+1→v.1[j]?=some y→jr y=false) (λj y hj hy=>by
     by_cases hji:j=i
     ·rw[hji,hx]at hy;cases hy;exact c
     ·exact hno j y (by omega) hy)
    exact hnext h
  ·intro w h;have h:=h.take (bh (∀j y,j<v.1.length→v.1[j]?=some y→jr y=false) (ah n1 [.int .i64 0]^ah n2 [.int .i64 (v.1.length:Int)]));obtain⟨hno,h⟩:=h.aB;refine aU h rfl λw h=>?_;dsimp only[dj,over]at h;refine aj h rfl ?_;refine aN h λw h=>?_;refine au.aE ?_ h.aG;rw[uH];intro y hy;obtain⟨j,hj,rfl⟩:=Bi.1 hy;exact hno j _ hj (bT hj)
  ·intro j w hj h;have h:=h.take (bh (j=1) (ah n1 [.int .i64 (fI jr v.1)]));obtain⟨hj1,h⟩:=h.aB;rw[hj1];refine aj h rfl ?_;refine aN h λw h=>?_;exact au.aE rfl h.aG
theorem sm{α:Type}{p:α→Bool}{xs:List α}(h:0≤fI p xs):∃x,xs[(fI p xs).toNat]?=some x∧p x=true∧(fI p xs).toNat<xs.length∧((fI p xs).toNat:Int)=fI p xs:=by
 unfold fI at h⊢;cases hf:xs.findIdx? p with
 |none=>rw[hf]at h;simp at h
 |some i=>
  obtain⟨hl,hp,_⟩:=Em.1 hf;exact⟨xs[i],by simp[hl],hp,by simpa using hl,by simp⟩
def bx(l:List Pc):(Int×Int)×Bool:=match l[(fI jr l).toNat]? with
 |some p=>if fI jr l<0 then((0,0),false)else((p.1,p.2.1),true)
 |none=>((0,0),false)
theorem rC{l:List Pc}(h:fI jr l<0):bx l=((0,0),false):=by
 unfold bx;split
 ·rw[aC h]
 ·rfl
theorem sA{l:List Pc}{p:Pc}(h:0≤fI jr l)(hp:l[(fI jr l).toNat]?=some p):bx l=((p.1,p.2.1),true):=by
 unfold bx;rw[hp];simp only;rw[ay (by omega)]
theorem Da(b:Nat)(v:List Pc×Int)(hl:v.1.length≤4294967296):bm (OL (some ⟨b,0⟩)) (km b v) (λr=>bh (r=bx v.1) (km b v)):=
 br λw S R h=>by
  refine aA h λn1 w h=>?_;refine af (LS b v hl) h λr w h=>?_;obtain⟨hr,h⟩:=h.aB;rw[hr];refine ae (λc=>?_) λc=>?_
  ·refine aU h rfl λw h=>?_;dsimp only[dj,over]at h;refine ar (x:=(0,0)) h rfl ?_;exact au.aE (rC bV).symm h.aG
  ·have c:0≤fI jr v.1:=bV;obtain⟨p,hp,hpl,hlt,_⟩:=sm c;refine aH h λw h=>?_;obtain⟨s,h⟩:=h.km b;refine ac (ac (aj h rfl (aj h rfl ?_)));refine bR h c hlt ?_;refine bR h c hlt ?_;refine eU h s _ 0 p hp rfl (by decide) rfl ?_;refine eU h s _ 1 p hp rfl (by decide) rfl ?_;refine aU h rfl λw h=>?_;dsimp only[dj,over]at h;refine ar (x:=(p.1,p.2.1)) h rfl ?_;exact au.aE (sA c hp).symm (h.oy b s v.1 v.2).aG
theorem Iv(n b:Nat)(s:Sl)(v:List Pc×Int)(hl:v.1.length≤4294967296):Iter Tryz.prog (uV n) (ah n [.ptr (some ⟨b,0⟩)]^ah b [.sl s,.int .u64 v.2]^aP s aD v.1) [.agg aD] v.1:=by
 intro y I D hy;refine xW.g (f:=gE) (args:=[.lf (.fn y)]) (caps:=[.lf (.ptr (some ⟨n,0⟩))]) (br (c:=Sq y ⟨n,0⟩) λw S R h=>?_);refine aj h rfl ?_;refine ae (λc=>(by cases c)) λc=>?_;refine aj h rfl ?_;have hs:=(h.rd (s:=s)).2;refine ac (aj h rfl ?_);have h:au _ _ _ _ (ah b [.sl s,.int .u64 v.2]^aP s aD v.1^ah n [.ptr (some ⟨b,0⟩)]^I 0):=h.aG;refine cS (λ(y:Int)=>ah b [.sl s,.int .u64 v.2]^aP s aD v.1^ah n [.ptr (some ⟨b,0⟩)]^I y.toNat) (λ(y:Int)=>0≤y∧y.toNat≤v.1.length) (λ(y:Int)=>v.1.length-y.toNat) h ⟨ku 0,by simp⟩ ?_;rintro(i:Int) w ⟨h0,h1⟩ h;refine ae (λc=>?_) λc=>?_
 ·have hi:i.toNat<v.1.length:=by simp at c;omega
  refine bR h h0 hi ?_;refine dW h s i.toNat (bT hi) rfl ?_;refine aA h λn9 w h=>?_;refine aw h (by rfl) λw h=>?_;refine ar h rfl ?_;refine np (hy i.toNat _ (bT hi)) h λr w h=>?_;refine ae (λc=>?_) λc=>?_
  ·have hr:r=false:=bV;rw[hr]at h;have h:au _ _ _ _ (D^_):=h;have h:=h.xz (I v.1.length);exact h.aG
  ·have hr:r=true:=bV;rw[hr]at h;have h:au _ _ _ _ (I (i.toNat+1)^_):=h;rw[wi (by omega) (by omega)];have e:(i+1).toNat=i.toNat+1:=(by omega);refine⟨⟨⟨(by show(0:Int)≤i+1;omega),(by show(i+1).toNat≤_;omega)⟩,?_⟩,(by show _-(i+1).toNat<_;omega)⟩;show au _ _ _ _ (ah b [.sl s,.int .u64 v.2]^aP s aD v.1^ah n [.ptr (some ⟨b,0⟩)]^I (i+1).toNat);rw[e];exact h.aG
 ·have hi:i.toNat=v.1.length:=by simp at c;omega
  rw[hi]at h;have h:=h.take (I v.1.length);have h:=h.uE D;exact h.aG
theorem Jb(b:Nat)(s:Sl)(v:List Pc×Int)(hl:v.1.length≤4294967296):bm (KH (some ⟨b,0⟩)) (ah b [.sl s,.int .u64 v.2]^aP s aD v.1) (λr=>bh (r=fI jr v.1) (ah b [.sl s,.int .u64 v.2]^aP s aD v.1)):=
 Q3 λw S R h=>by
  refine aA h λn1 w h=>?_;refine aA h λn2 w h=>?_;refine aU h rfl λw h=>?_;dsimp only[dj,over]at h;refine af (iJ b) (h.le (aF _)) λf w h=>?_;obtain⟨n,h⟩:=h.lX;obtain⟨hf,h⟩:=h.aB;rw[hf];have h:=(h.take (ah n1 [.int .i64 0]^ah n2 [.int .i64 ((0:Nat):Int)])).iF (p:=∀j y,j<0→v.1[j]?=some y→jr y=false) (λj y hj=>by omega);refine oF (Iv n b s v hl) (λi=>bh (∀j y,j<i→v.1[j]?=some y→jr y=false) (ah n1 [.int .i64 0]^ah n2 [.int .i64 (i:Int)])) (λj=>bh (j=1) (ah n1 [.int .i64 (fI jr v.1)])) h ?_ ?_ ?_
  ·intro i x hx w S R A4 next jump rdy bsy hmid hnext hjump h
   have hi:i<v.1.length:=(gJ.1 hx).1;refine aA h λn8 w h=>?_;refine aw h (by rfl) λw h=>?_;refine hmid h λw h=>?_;have h:=h.take (bh (∀j y,j<i→v.1[j]?=some y→jr y=false) (ah n1 [.int .i64 0]^ah n2 [.int .i64 (i:Int)]));obtain⟨hno,h⟩:=h.aB;refine aj h rfl ?_;refine ae (λc=>?_) λc=>?_
   ·refine aj h rfl ?_;refine aU h rfl λw h=>?_;dsimp only[dj,over]at h;have e:fI jr v.1=(i:Int):=DK hx c hno;rw[←e]at h;have h:=(h.take (ah n1 [.int .i64 (fI jr v.1)])).iF (p:=1=1) rfl;exact hjump 1 (by decide) h
   ·refine aj h rfl ?_;refine aU h rfl λw h=>?_;dsimp only[dj,over]at h;rw[wi (by omega) (by omega)]at h;have h:au _ _ _ _ (ah n2 [.int .i64 ((i+1:Nat):Int)]^_):=h;have h:=(h.take (ah n1 [.int .i64 0]^ah n2 [.int .i64 ((i+1:Nat):Int)])).iF (p:=∀j y,j<i+1→v.1[j]?=some y→jr y=false) (λj y hj hy=>by
     by_cases hji:j=i
     ·rw[hji,hx]at hy;cases hy;exact c
     ·exact hno j y (by omega) hy)
    exact hnext h
  ·intro w h;have h:=h.take (bh (∀j y,j<v.1.length→v.1[j]?=some y→jr y=false) (ah n1 [.int .i64 0]^ah n2 [.int .i64 (v.1.length:Int)]));obtain⟨hno,h⟩:=h.aB;refine aU h rfl λw h=>?_;dsimp only[dj,over]at h;refine aj h rfl ?_;refine aN h λw h=>?_;refine au.aE ?_ h.aG;rw[uH];intro y hy;obtain⟨j,hj,rfl⟩:=Bi.1 hy;exact hno j _ hj (bT hj)
  ·intro j w hj h;have h:=h.take (bh (j=1) (ah n1 [.int .i64 (fI jr v.1)]));obtain⟨hj1,h⟩:=h.aB;rw[hj1];refine aj h rfl ?_;refine aN h λw h=>?_;exact au.aE rfl h.aG
def lW(p:Pc)(s:BB):Pc:=(p.1,p.2.1,s.1,s.2.1,s.2.2.1,s.2.2.2.1,s.2.2.2.2,p.2.2.2.2.2.2.2.1,false)
def dw(l:List Pc)(s:BB):List Pc:=match l[(fI jr l).toNat]? with
 |some p=>if fI jr l<0 then l else l.set (fI jr l).toNat (lW p s)
 |none=>l
theorem AB(b:Nat)(s:BB)(v:List Pc×Int)(hl:v.1.length≤4294967296):bm (Dr (some ⟨b,0⟩) s) (km b v) (λr=>bh (r=bx v.1) (km b (dw v.1 s,v.2))):=
 br λw S R h=>by
  refine aA h λn1 w h=>?_;refine aA h λn2 w h=>?_;refine af (Da b v hl) h λr w h=>?_;obtain⟨hr,h⟩:=h.aB;rw[hr];refine aA h λn4 w h=>?_;refine aw h (by rfl) λw h=>?_;refine aK h (λ_=>ah n4 (Ks.mk KR (bx v.1).1)^ah n2 [.int .u64 0,.int .u64 0]^km b (dw v.1 s,v.2)) (λ_=>True) (λx w _ h=>?_) ?_
  ·refine ar h rfl ?_;refine aw h (by rfl) λw h=>?_;refine ar h rfl ?_;exact au.aE rfl h.aG
  ·by_cases c:0≤fI jr v.1
   ·obtain⟨p,hp,hpl,hlt,_⟩:=sm c;have he:=sA c hp;have ha:dw v.1 s=v.1.set (fI jr v.1).toNat (lW p s):=by
     unfold dw;rw[hp];simp only;rw[ay (by omega)]
    refine ae (λc2=>?_) λc2=>by rw[he]at c2;cases c2
    refine aH h λw h=>?_;obtain⟨sl,h⟩:=h.km b;refine ac (aj h rfl ?_);refine af (Jb b sl v hl) h λr9 w h=>?_;obtain⟨hr9,h⟩:=h.aB;rw[hr9];refine aI h rfl ?_;refine bR h c hlt ?_;refine aH h λw h=>?_;refine ar (x:=s) h rfl ?_;refine ac ?_;refine lT h sl (fI jr v.1).toNat 8 p (gV p false) hp rfl (by decide) (by simp) rfl λw h=>?_;refine aJ h ?_;refine ac ?_;have hp2:(v.1.set (fI jr v.1).toNat (gV p false))[(fI jr v.1).toNat]?=some (gV p false):=by rw[rJ hlt]
    refine lT h sl (fI jr v.1).toNat 2 (gV p false) (lW p s) hp2 rfl (by rw[Ks.len];decide) (by simp[Ks.mk]) rfl λw h=>?_;rw[Gu]at h;rw[ha];exact⟨trivial,(h.oy b sl (v.1.set (fI jr v.1).toNat (lW p s)) v.2).aG⟩
   ·have c:fI jr v.1<0:=(by omega);have he:=rC c;have ha:dw v.1 s=v.1:=by
     unfold dw;split
     ·rw[aC c]
     ·rfl
    refine ae (λc2=>by rw[he]at c2;cases c2) λc2=>?_;rw[ha];exact⟨trivial,h.aG⟩
theorem uL:∀(B:List Pc) (n:Int),(∀p∈B,kW p=false)→B.foldl tJ n=n
 |[],_,_=>rfl
 |p::B,n,h=>by
  have hp:=h p qz;rw[Cq,tJ,ay (by rw[hp];simp)];exact uL B n (λq hq=>h q (nS _ hq))
def f1(i:Nat)(p:Pc):Pc:=match i with|0=>p|_=>xj p
def f2(_:Nat)(p:Pc):Pc:=xj p
theorem Ja(l:List Pc):dh (l.map eX)=0:=by
 rw[dh];refine uL _ 0 λp hp=>?_;obtain⟨q,_,rfl⟩:=rP.1 hp;rw[eX];split
 ·simp[kW,jr,gV]
 ·rename_i h;simpa using h
end eA

namespace Target
open bB bi
abbrev KP:Ks:=[.int .u64,.int .u64]
def UQ:Int→List (Int×Int)→Int
 |v,[]=>v
 |v,p::r=>if v=0 then v else UQ (pW v p.1 p.2) r
theorem Nj(v:Int)(s:Sl)(ps:List (Int×Int))(hv:U v)(hp:∀p∈ps,U p.1∧U p.2)(hl:ps.length≤1000000):
  bm (OJ v s) (aP s KP ps) (λr=>bh (r=UQ v ps) (aP s KP ps)):=
 br λw0 S R h=>by
  have h:au w0 S R w0 (aP s KP ps^aT):=h.le (aF _);have hs:=(h.rd (s:=s)).2;refine cS (λ(_:Int×Int)=>aP s KP ps^aT) (λ(y:Int×Int)=>((0≤y.2∧y.2≤ps.length)∧U y.1)∧UQ y.1 (ps.drop y.2.toNat)=UQ v ps) (λ(y:Int×Int)=>ps.length-y.2.toNat) h ⟨⟨⟨by simp,by simp⟩,hv⟩,rfl⟩ ?_;rintro(⟨n,i⟩:Int×Int) w ⟨⟨⟨h0,h1⟩,hn⟩,h2⟩ h;dsimp only at h0 h1 h2 hn h⊢;refine ae (λc=>?_) λc=>?_
  ·have hi:i.toNat<ps.length:=(by simp at c;omega);obtain⟨p,hpp⟩:∃p,ps[i.toNat]?=some p:=⟨_,bT hi⟩;have hU:=hp p (kQ hpp);rw[pP hpp,UQ]at h2;refine bR h h0 hi (dW h s i.toNat hpp rfl ?_);refine aA h λn5 w h=>?_;refine aw h (by rfl) λw h=>?_;refine ae (λc2=>?_) λc2=>?_
   ·have c2:n=0:=gk;rw[aC c2]at h2;exact au.aE h2 h.aG
   have c2:¬n=0:=gk;rw[ay c2]at h2;have h:au w0 S R w (ah n5 [.int .u64 p.1,.int .u64 p.2]^aP s KP ps^aT):=h;refine⟨by decide,aj h rfl ⟨by decide,aj h rfl ?_⟩⟩;refine af (t8 n p.1 p.2 hn hU.1 hU.2) h λr w h=>?_;obtain⟨hr,h⟩:=h.aB;rw[hr,wi (n:=i+1) (by omega) (by omega)];refine⟨⟨⟨⟨⟨by show 0≤i+1;omega,by show i+1≤_;omega⟩,xX hn hU.1 hU.2⟩,?_⟩,h.aG⟩,by show _-(i+1).toNat<_;omega⟩;show UQ (pW n p.1 p.2) (ps.drop (i+1).toNat)=_;rw[show(i+1).toNat=i.toNat+1 by omega];exact h2
  ·have hi:i.toNat=ps.length:=(by simp at c;omega);rw[hi,zw]at h2;exact au.aE h2 h.aG
theorem Jf(b c:Int):pW 0 b c=0:=by unfold pW;simp
theorem vn(bw g:Int)(hb:U bw)(hg:U g):bm (Oz bw g) aT (λr=>bh (r=zB bw g) aT):=
 br λw0 S R h=>by
  refine aA h λn1 w h=>?_;have h:=h.QA ⟨some ⟨n1,0⟩,1,1⟩ ⟨n1,0⟩ KP [(g,(256:Int))] rfl rfl (fa _) (by simp) (by simp) (λi hi=>by
   have:i<2:=hi
   match i with|0=>rfl|1=>rfl)
  refine af (Nj bw ⟨some ⟨n1,0⟩,1,1⟩ [(g,256)] hb (by intro p hp;rw[jY]at hp;rw[hp];exact⟨hg,aX _⟩) (by simp)) h λr w h=>?_;obtain⟨hr,h⟩:=h.aB;refine au.aE ?_ h.aG;rw[hr];show(if bw=0 then bw else pW bw g 256)=_;split
  ·rename_i h;rw[h,zB,Jf]
  ·rfl
theorem Hi(bw bG g:Int)(hb:U bw)(hq:U bG)(hg:U g):bm (OZ bw bG g) aT (λr=>bh (r=BH bw bG g) aT):=
 br λw0 S R h=>by
  refine aA h λn1 w h=>?_;have h:=h.QA ⟨some ⟨n1,0⟩,2,2⟩ ⟨n1,0⟩ KP [(bG,(1000000000:Int)),(g,(256:Int))] rfl rfl (fa _) (by simp) (by simp) (λi hi=>by
   have:i<4:=hi
   match i with|0=>rfl|1=>rfl|2=>rfl|3=>rfl)
  refine af (Nj bw ⟨some ⟨n1,0⟩,2,2⟩ [(bG,1000000000),(g,256)] hb (by
   intro p hp;simp only[dO,List.not_mem_nil,or_false]at hp;rcases hp with hp|hp<;>rw[hp]
   ·exact⟨hq,aX _⟩
   ·exact⟨hg,aX _⟩) (by simp)) h λr w h=>?_
  obtain⟨hr,h⟩:=h.aB;refine au.aE ?_ h.aG;rw[hr];show(if bw=0 then bw else if pW bw bG 1000000000=0 then pW bw bG 1000000000 else pW (pW bw bG 1000000000) g 256)=_;unfold BH;split
  ·rename_i h;rw[h,Jf,Jf]
  ·split
   ·rename_i h;rw[h,Jf]
   ·rfl
theorem Qj(bw bG g tso bn:Int)(hb:U bw)(hq:U bG)(hg:U g)(ht:U tso)(hm:U bn):bm (Ty bw bG g tso bn) aT (λr=>bh (r=Az bw bG g tso bn) aT):=
 br λw0 S R h=>by
  refine ae (λc=>?_) λc=>?_
  ·repeat' (first
    |(refine aH h λw h=>?_)
    |(refine ac ?_)
    |(refine ar h rfl ?_)
    |(refine aj h rfl ?_)
    |(refine aJ h ?_)
    |(refine aI h rfl ?_)
    |(refine aw h (by rfl) λw h=>?_)
    |(refine aA h λn w h=>?_)
    |(refine aN h λw h=>?_)
    |(refine aU h rfl λw h=>?_;dsimp only[dj,over]at h)
    |(refine af (uh 10 bn (aX _) hm) h λr w h=>?_;obtain⟨hr,h⟩:=h.aB;(try dsimp only at hr h);try rw[hr]))
   exact au.aE (by unfold Az;rw[aC (show bG=0 by simpa using c)]) h.aG
  ·repeat' (first
    |(refine aH h λw h=>?_)
    |(refine ac ?_)
    |(refine ar h rfl ?_)
    |(refine aj h rfl ?_)
    |(refine aJ h ?_)
    |(refine aI h rfl ?_)
    |(refine aw h (by rfl) λw h=>?_)
    |(refine aA h λn w h=>?_)
    |(refine aN h λw h=>?_)
    |(refine aU h rfl λw h=>?_;dsimp only[dj,over]at h)
    |(refine af (Hi bw bG g hb hq hg) h λr w h=>?_;obtain⟨hr,h⟩:=h.aB;(try dsimp only at hr h);try rw[hr])
    |(refine af (uh 3 tso (aX _) ht) h λr w h=>?_;obtain⟨hr,h⟩:=h.aB;(try dsimp only at hr h);try rw[hr])
    |(refine af (uh 4 bn (aX _) hm) h λr w h=>?_;obtain⟨hr,h⟩:=h.aB;(try dsimp only at hr h);try rw[hr])
    |(refine af (eJ (BH bw bG g) (qK 3 tso) (J5 hb hq hg) (Dg (aX _) ht)) h λr w h=>?_;obtain⟨hr,h⟩:=h.aB;(try dsimp only at hr h);try rw[hr]))
   exact au.aE (by unfold Az;rw[ay (show ¬bG=0 by simpa using c)]) h.aG
theorem Bp(bw g:Int)(hb:U bw)(hg:U g):bm (OD bw g) aT (λr=>bh (r=zB bw g) aT):=
 br λw0 S R h=>by
  repeat' (first
   |(refine aH h λw h=>?_)
   |(refine ac ?_)
   |(refine ar h rfl ?_)
   |(refine aj h rfl ?_)
   |(refine aJ h ?_)
   |(refine aI h rfl ?_)
   |(refine aw h (by rfl) λw h=>?_)
   |(refine aA h λn w h=>?_)
   |(refine aN h λw h=>?_)
   |(refine aU h rfl λw h=>?_;dsimp only[dj,over]at h)
   |(refine af (nl bw g 256 hb hg (aX _)) h λr w h=>?_;obtain⟨hr,h⟩:=h.aB;(try dsimp only at hr h);try rw[hr]))
  exact au.aE rfl h.aG
theorem vo(bw bG g:Int)(hb:U bw)(hq:U bG)(hg:U g):bm (IF bw bG g) aT (λr=>bh (r=BH bw bG g) aT):=
 br λw0 S R h=>by
  repeat' (first
   |(refine aH h λw h=>?_)
   |(refine ac ?_)
   |(refine ar h rfl ?_)
   |(refine aj h rfl ?_)
   |(refine aJ h ?_)
   |(refine aI h rfl ?_)
   |(refine aw h (by rfl) λw h=>?_)
   |(refine aA h λn w h=>?_)
   |(refine aN h λw h=>?_)
   |(refine aU h rfl λw h=>?_;dsimp only[dj,over]at h)
   |(refine af (nl bw bG 1000000000 hb hq (aX _)) h λr w h=>?_;obtain⟨hr,h⟩:=h.aB;(try dsimp only at hr h);try rw[hr])
   |(refine af (nl (pW bw bG 1000000000) g 256 (xX hb hq (aX _)) hg (aX _)) h λr w h=>?_;obtain⟨hr,h⟩:=h.aB;(try dsimp only at hr h);try rw[hr]))
  exact au.aE rfl h.aG
theorem Ng(bw bG g tso bn:Int)(hb:U bw)(hq:U bG)(hg:U g)(ht:U tso)(hm:U bn):bm (S_ bw bG g tso bn) aT (λr=>bh (r=Az bw bG g tso bn) aT):=
 br λw0 S R h=>by
  refine ae (λc=>?_) λc=>?_
  ·repeat' (first
    |(refine aH h λw h=>?_)
    |(refine ac ?_)
    |(refine ar h rfl ?_)
    |(refine aj h rfl ?_)
    |(refine aJ h ?_)
    |(refine aI h rfl ?_)
    |(refine aw h (by rfl) λw h=>?_)
    |(refine aA h λn w h=>?_)
    |(refine aN h λw h=>?_)
    |(refine aU h rfl λw h=>?_;dsimp only[dj,over]at h)
    |(refine af (vt 10 bn (aX _) hm) h λr w h=>?_;obtain⟨hr,h⟩:=h.aB;(try dsimp only at hr h);try rw[hr]))
   exact au.aE (by unfold Az;rw[aC (show bG=0 by simpa using c)]) h.aG
  ·repeat' (first
    |(refine aH h λw h=>?_)
    |(refine ac ?_)
    |(refine ar h rfl ?_)
    |(refine aj h rfl ?_)
    |(refine aJ h ?_)
    |(refine aI h rfl ?_)
    |(refine aw h (by rfl) λw h=>?_)
    |(refine aA h λn w h=>?_)
    |(refine aN h λw h=>?_)
    |(refine aU h rfl λw h=>?_;dsimp only[dj,over]at h)
    |(refine af (vo bw bG g hb hq hg) h λr w h=>?_;obtain⟨hr,h⟩:=h.aB;(try dsimp only at hr h);try rw[hr])
    |(refine af (vt 3 tso (aX _) ht) h λr w h=>?_;obtain⟨hr,h⟩:=h.aB;(try dsimp only at hr h);try rw[hr])
    |(refine af (vt 4 bn (aX _) hm) h λr w h=>?_;obtain⟨hr,h⟩:=h.aB;(try dsimp only at hr h);try rw[hr])
    |(refine af (fz (BH bw bG g) (qK 3 tso) (J5 hb hq hg) (Dg (aX _) ht)) h λr w h=>?_;obtain⟨hr,h⟩:=h.aB;(try dsimp only at hr h);try rw[hr]))
   exact au.aE (by unfold Az;rw[ay (show ¬bG=0 by simpa using c)]) h.aG
end Target

namespace Ih
open bB bi _root_.Go.X.Target fZ
theorem NJ(w:Int):bm (R5 w) aT (λr=>ex λn:Nat=>bh (r=some ⟨n,0⟩) (ah n (ad.fY ((Wn.mk w 0 0 0 0 0 0 0))))):=
 br λw0 S R h=>by
  refine aA h λn w h=>?_;exact au.gX n (au.aE rfl h.aG)
theorem yc(b:Nat)(v:Wn):bm (Kz (some ⟨b,0⟩)) (ah b (ad.fY v)) (λr=>bh (r=v.v0) (ah b (ad.fY v))):=
 br λw0 S R h=>by
  refine ae (λc=>(by cases c)) λ_=>?_;refine ac ⟨by decide,aj h rfl ?_⟩;exact au.aE rfl h.aG
theorem rH(t s v w:Int)(ht:U t)(hs:U s):bm (Fq t (s,v) w) aT (λr=>bh (r=!decide (oU t s w)) aT):=
 br λw0 S R h=>by
  refine aA h λn w h=>?_;refine aj h rfl ?_;rw[HW ht hs];exact au.aE (by unfold oU;rw[jk];simp) h.aG
theorem pr(b:Nat)(v:Wn)(t x:Int):bm (O2 (some ⟨b,0⟩) (t,x)) (ah b (ad.fY v)) (λ_=>ah b (ad.fY ((v.push t x)))):=
 br λw0 S R h=>by
  refine aA h λn w h=>?_;refine aH h λw h=>?_;refine ar h rfl ?_;refine ac (ac (ac (ac (ac ⟨by decide,by decide,aj h rfl (aj h rfl ⟨by decide,?_⟩)⟩))));refine aU h rfl λw h=>?_;dsimp only[dj,over]at h;refine aJ h ⟨by decide,?_⟩;refine aU h rfl λw h=>?_;dsimp only[dj,over]at h;refine aJ h ⟨by decide,?_⟩;refine aU h rfl λw h=>?_;dsimp only[dj,over]at h;exact au.bk (A:=ah b (ad.fY ((v.push t x)))) h
def UR(v:Wn)(f t x:Int)(i:Int):Wn:={ v with
 t0:=if f=0∧0<i then t else v.t0,v0:=if f=0∧0<i then x else v.v0
 t1:=if f≤1∧1<f+i then t else v.t1,v1:=if f≤1∧1<f+i then x else v.v1
 t2:=if 2<f+i then t else v.t2,v2:=if 2<f+i then x else v.v2}
theorem iJ(b:Nat)(v:Wn)(f t x:Int)(hf:f=0∨f=1∨f=2):bm (KY (some ⟨b,0⟩) f (t,x)) (ah b (ad.fY v))
    (λ_=>ah b (ad.fY ((if f=0 then v.all t x else if f=1 then v.xM t x else v.s2 t x)))):=
  br λw0 S R h=>by
    refine aA h λn w h=>?_;refine ac ?_;refine⟨⟨rfl,λ_=>by simp⟩,f.toNat,3,3,?_,rfl,rfl,⟨by omega,fa _,fa _⟩,?_⟩
    · show f=f.toNat;omega
    have h:au w0 S R w (ah b (ad.fY ((UR v f t x 0)))^ah n (Ks.mk KP (t,x))^aT):=by
      have h:=h.du (b:=b) (L':=(ad.fY ((UR v f t x 0)))) (by rcases hf with rfl|rfl|rfl<;>simp[UR]);exact h
    have hlen:((Sl.sub ⟨some ⟨b,0+1⟩,3,3⟩ f.toNat 3 3 2).len:Int)=3-f:=by
      show((3-f.toNat:Nat):Int)=_;omega
    refine cS (λi:Int=>ah b (ad.fY ((UR v f t x i)))^ah n (Ks.mk KP (t,x))^aT) (λi:Int=>0≤i∧i≤3-f) (λi:Int=>3-i.toNat) h ⟨ku _,by omega⟩ ?_;rintro(i:Int) w ⟨h0,h1⟩ h;rw[hlen];refine ae (λc=>?_) λc=>?_
    · have c:i<3-f:=bV
      refine aH h λw h=>ar h rfl (ac ?_);rw[wi (n:=f+i) (by omega) (by omega),wi (n:=i+1) (by omega) (by omega)];refine⟨by omega,?_⟩;have hi:(f=0∧i=0)∨(f=0∧i=1)∨(f=0∧i=2)∨(f=1∧i=0)∨(f=1∧i=1)∨(f=2∧i=0):=by omega
      refine az h b (ad.fY ((UR v f t x (i+1)))) rfl ?_ ?_ λw h=>?_
      · rcases hi with⟨rfl,rfl⟩|⟨rfl,rfl⟩|⟨rfl,rfl⟩|⟨rfl,rfl⟩|⟨rfl,rfl⟩|⟨rfl,rfl⟩<;>rfl
      · rcases hi with⟨rfl,rfl⟩|⟨rfl,rfl⟩|⟨rfl,rfl⟩|⟨rfl,rfl⟩|⟨rfl,rfl⟩|⟨rfl,rfl⟩<;>rfl
      · exact⟨⟨⟨by show 0≤i+1;omega,by show i+1≤_;omega⟩,h⟩,by show 3-(i+1).toNat<3-i.toNat;omega⟩
    · have c:i=3-f:=by
       have:¬i<3-f:=bV;omega
      subst c;refine au.bk (A:=ah b (ad.fY ((if f=0 then v.all t x else if f=1 then v.xM t x else v.s2 t x)))) (h.du (b:=b) ?_);rcases hf with rfl|rfl|rfl<;>simp[UR,Wn.all,Wn.xM,Wn.s2]
theorem Ju(b:Nat)(v:Wn)(t x:Int):bm (TC (some ⟨b,0⟩) t x) (ah b (ad.fY v)) (λ_=>ah b (ad.fY (((v.tick t).all t x)))):=
 br λw0 S R h=>by
  refine ae (λc=>(by cases c)) λ_=>?_;refine ac (aj h rfl (ac ?_));refine az h b (ad.fY ((v.tick t))) rfl rfl rfl λw h=>?_;refine af (iJ b (v.tick t) 0 t x (.inl rfl)) h λr w h=>?_;exact au.bk (A:=ah b (ad.fY (((v.tick t).all t x)))) h
end Ih

namespace Ii
open bB bi _root_.Go.X.Target fZ Ih
theorem U4{w:Int}(h:U w):IntKind.u64.wrap (w.tdiv 4)=w/4:=by
 unfold U at h;rw[lP h.1,wu (by omega) (by omega)]
theorem U2{w:Int}(h:U w):IntKind.u64.wrap (w.tdiv 2)=w/2:=by
 unfold U at h;rw[lP h.1,wu (by omega) (by omega)]
theorem FR(b:Nat)(v:Wn)(hv:uk v)(t x:Int)(ht:U t)(hx:U x):bm (Tv (some ⟨b,0⟩) t x) (ah b (ad.fY v))
    (λr=>bh (r=(z6 v t x).v0) (ah b (ad.fY ((z6 v t x))))):=
  br λw0 S R h=>by
    refine ae (λc=>(by cases c)) λ_=>?_;refine ac (aj h rfl (ac ?_));refine az h b (ad.fY ((v.tick t))) rfl rfl rfl λw h=>?_;have hu:=hv.tick ht;have e0:z6 v t x=wU (v.tick t) (v.tick t).la x:=rfl;rw[e0];generalize v.tick t=u at*
    refine ac (aj h rfl ?_);refine aA h λn w h=>?_;refine az h n [.int .u64 u.la,.int .u64 x] rfl rfl rfl λw h=>?_;have h:au w0 S R w (ah b (ad.fY u)^ah n [.int .u64 u.la,.int .u64 x]):=h.aG;refine aK h (λ_=>ah b (ad.fY u)^ah n [.int .u64 u.la,.int .u64 x]) (λy:Bool=>y=decide (x≥u.v0∨oU u.la u.t2 u.w)) (λ(y:Bool) w hy h=>?_) ?_
    · rw[hy]
      refine ae (λc=>?_) λc=>?_
      · have c:x≥u.v0∨oU u.la u.t2 u.w:=bV
        refine aj h rfl ?_;refine af (Ju b u u.la x) h λr w h=>?_;have e:wU u u.la x=u.all u.la x:=by unfold wU;rw[aC c]
        rw[e];have e2:u.tick u.la=u:=by unfold Wn.tick;simp
        rw[e2]at h;exact au.aE rfl h.bk
      have c:¬(x≥u.v0∨oU u.la u.t2 u.w):=bV;have e:wU u u.la x=vJ (z5 u u.la x) u.la x:=(by unfold wU;rw[ay c]);rw[e];refine aK h (λ_=>ah b (ad.fY ((z5 u u.la x)))^ah n [.int .u64 u.la,.int .u64 x]) (λ_=>True) (λ_ w _ h=>?_) ?_
      · have hs:=hu.z5 hu.la hx
        have hT:=hu.la;generalize u.la=T at*
        generalize z5 u T x=s at*
        refine aK h (λ_=>ah b (ad.fY ((vJ s T x)))^ah n [.int .u64 T,.int .u64 x]) (λ_=>True) (λ_ w _ h=>?_) ?_
        · refine ac ⟨by decide,aj h rfl ?_⟩
          exact au.aE rfl h.bk
        refine aH h λw h=>aj h rfl (ac (ac ⟨by decide,aj h rfl (aj (x:=(s.t0,s.v0)) h rfl ?_)⟩));refine af (rH T s.t0 s.v0 s.w hT hs.t0) h λr w h=>?_;obtain⟨hr,h⟩:=h.aB;rw[hr,wl];refine ae (λc1=>?_) λc1=>?_
        · have c1:oU T s.t0 s.w:=by simpa using c1
          refine ar (x:=(T,x)) h rfl ?_;refine af (pr b s T x) h λr w h=>?_;refine aH h λw h=>aj h rfl (ac (ac ⟨by decide,aj h rfl (aj (x:=(s.t1,s.v1)) h rfl ?_)⟩));refine af (rH T s.t1 s.v1 s.w hT hs.t1) h λr w h=>?_;obtain⟨hr,h⟩:=h.aB;rw[hr,wl];refine ae (λc2=>?_) λc2=>?_
          · have c2:oU T s.t1 s.w:=gk
            refine ar (x:=(T,x)) h rfl ?_;refine af (pr b (s.push T x) T x) h λr w h=>?_;have e:vJ s T x=(s.push T x).push T x:=by unfold vJ;rw[aC c1,aC c2]
            rw[e];exact⟨trivial,h.aG⟩
          · have c2:¬oU T s.t1 s.w:=gk
            have e:vJ s T x=s.push T x:=(by unfold vJ;rw[aC c1,ay c2]);rw[e];exact⟨trivial,h.aG⟩
        have c1:¬oU T s.t0 s.w:=(by simpa using c1);have hf:∀k,(vJ s T x=k)=((if s.t1=s.t0∧oU T s.t0 (s.w/4)then s.xM T x else if s.t2=s.t1∧oU T s.t0 (s.w/2)then s.s2 T x else s)=k):=λk=>by unfold vJ;rw[ay c1]
        refine aK h (λ_=>ah b (ad.fY s)^ah n [.int .u64 T,.int .u64 x]) (λy:Bool=>y=decide (s.t1=s.t0∧oU T s.t0 (s.w/4))) (λ(y:Bool) w hy h=>?_) ?_
        · rw[hy]
          refine ae (λc2=>?_) λc2=>?_
          · have c2:s.t1=s.t0∧oU T s.t0 (s.w/4):=gk
            refine ar (x:=(T,x)) h rfl ?_;refine af (iJ b s 1 T x (.inr (.inl rfl))) h λr w h=>?_;have e:vJ s T x=s.xM T x:=by rw[hf,aC c2]
            rw[e];have h:au w0 S R w (ah b (ad.fY ((s.xM T x)))^ah n [.int .u64 T,.int .u64 x]):=h;exact⟨trivial,h⟩
          have c2:¬(s.t1=s.t0∧oU T s.t0 (s.w/4)):=gk;refine aK h (λ_=>ah b (ad.fY s)^ah n [.int .u64 T,.int .u64 x]) (λy:Bool=>y=decide (s.t2=s.t1∧oU T s.t0 (s.w/2))) (λ(y:Bool) w hy h=>?_) ?_
          · rw[hy]
            refine ae (λc3=>?_) λc3=>?_
            · have c3:s.t2=s.t1∧oU T s.t0 (s.w/2):=by simpa using c3
              refine ar (x:=(T,x)) h rfl ?_;refine af (iJ b s 2 T x (.inr (.inr rfl))) h λr w h=>?_;have e:vJ s T x=s.s2 T x:=by rw[hf,ay c2,aC c3]
              rw[e];have h:au w0 S R w (ah b (ad.fY ((s.s2 T x)))^ah n [.int .u64 T,.int .u64 x]):=h;exact⟨trivial,h⟩
            · have c3:¬(s.t2=s.t1∧oU T s.t0 (s.w/2)):=by simpa using c3
              have e:vJ s T x=s:=(by rw[hf,ay c2,ay c3]);rw[e];exact⟨trivial,h.aG⟩
          · refine aH h λw h=>ac (ac ⟨by decide,by decide,aj h rfl (aj h rfl ?_)⟩)
            refine ae (λc3=>?_) λc3=>?_
            · have c3:s.t2=s.t1:=by simpa using c3
              refine aj h rfl (ac (ac ⟨by decide,aj h rfl (aj (x:=(s.t0,s.v0)) h rfl ?_)⟩));rw[U2 hs.w];refine af (rH T s.t0 s.v0 (s.w/2) hT hs.t0) h λr w h=>?_;obtain⟨hr,h⟩:=h.aB;exact⟨by rw[hr,wl];simp[c3],h.aG⟩
            · have c3:¬s.t2=s.t1:=by simpa using c3
              exact⟨by simp[c3],h.aG⟩
        · refine aH h λw h=>ac (ac ⟨by decide,by decide,aj h rfl (aj h rfl ?_)⟩)
          refine ae (λc3=>?_) λc3=>?_
          · have c3:s.t1=s.t0:=by simpa using c3
            refine aj h rfl (ac (ac ⟨by decide,aj h rfl (aj (x:=(s.t0,s.v0)) h rfl ?_)⟩));rw[U4 hs.w];refine af (rH T s.t0 s.v0 (s.w/4) hT hs.t0) h λr w h=>?_;obtain⟨hr,h⟩:=h.aB;exact⟨by rw[hr,wl];simp[c3],h.aG⟩
          · have c3:¬s.t1=s.t0:=by simpa using c3
            exact⟨by simp[c3],h.aG⟩
      · refine cS (λ_:Int=>ah b (ad.fY u)^ah n [.int .u64 u.la,.int .u64 x]) (λi:Int=>(0≤i∧i≤3)∧(i≥2→¬x≥u.v1)∧(i≥3→¬x≥u.v2)) (λi:Int=>3-i.toNat) h ⟨⟨by simp,by simp⟩,by simp,by simp⟩ ?_
        rintro(i:Int) w ⟨⟨h0,h1⟩,h2,h3⟩ h;refine ae (λc=>?_) λc=>?_
        · have c:i<3:=bV
          have hi:i=0∨i=1∨i=2:=(by omega);refine aK h (λ_=>ah b (ad.fY u)^ah n [.int .u64 u.la,.int .u64 x]) (λy:Bool=>y=(decide (i=1∧x≥u.v1)||decide (i=2∧x≥u.v2))) (λ(y:Bool) w hy h=>?_) ?_
          · rw[hy]
            refine ae (λc2=>?_) λc2=>?_
            · refine ar (x:=(u.la,x)) h rfl ?_
              refine af (iJ b u i u.la x hi) h λr w h=>?_;have c2:(i=1∧x≥u.v1)∨(i=2∧x≥u.v2):=gk;have e:z5 u u.la x=if i=0 then u.all u.la x else if i=1 then u.xM u.la x else u.s2 u.la x:=by
                unfold z5;rcases c2 with⟨rfl,cc⟩|⟨rfl,cc⟩
                · rw[aC cc];rfl
                · rw[ay (h2 (by omega)),aC cc];rfl
              rw[e];exact⟨trivial,h.aG⟩
            · have c2:¬((i=1∧x≥u.v1)∨(i=2∧x≥u.v2)):=gk
              rw[wi (n:=i+1) (by omega) (by omega)];refine⟨⟨⟨⟨by omega,by omega⟩,λhh=>?_,λhh=>?_⟩,h⟩,by omega⟩
              · by_cases hi1:i=1
                · intro hx1;exact c2 (.inl ⟨hi1,hx1⟩)
                · exact h2 (by omega)
              · intro hx1;exact c2 (.inr ⟨by omega,hx1⟩)
          · refine ae (λc2=>?_) λc2=>?_
            · have c2:i>0:=gk
              refine ac ⟨⟨h0,c⟩,?_⟩;have hi:i=1∨i=2:=by omega
              rcases hi with rfl|rfl
              · exact aj h rfl ⟨by simp,h⟩
              · exact aj h rfl ⟨by simp,h⟩
            · have c2:i=0:=by
               have:¬i>0:=gk;omega
              exact⟨by simp[c2],h⟩
        · have c:i=3:=by
           have:¬i<3:=bV;omega
          have e:z5 u u.la x=u:=(by unfold z5;rw[ay (h2 (by omega)),ay (h3 (by omega))]);rw[e];exact⟨trivial,h⟩
    · refine aH h λw h=>ac ⟨by decide,aj h rfl ?_⟩
      refine ae (λc=>?_) λc=>?_
      · have c:x≥u.v0:=bV
        exact⟨by simp[c],h⟩
      · have c:¬x≥u.v0:=bV
        refine aj h rfl (ac (ac ⟨by decide,aj h rfl (aj (x:=(u.t2,u.v2)) h rfl ?_)⟩));refine af (rH u.la u.t2 u.v2 u.w hu.la hu.t2) h λr w h=>?_;obtain⟨hr,h⟩:=h.aB;exact⟨by rw[hr,wl];simp[c],h.aG⟩
end Ii

namespace JX
open bB bi _root_.Go.X.Target fZ
theorem zP:bm R6 aT (λr=>ex λn:Nat=>bh (r=some ⟨n,0⟩) (ah n (ad.jo ((NP.mk 0 0))))):=
 br λw0 S R h=>by
  refine aA h λn w h=>?_;exact au.gX n (au.aE rfl h.aG)
theorem Mo:bm R7 aT (λr=>ex λn:Nat=>bh (r=some ⟨n,0⟩) (ah n (ad.jh ((Pp.mk 0 0 false))))):=
 br λw0 S R h=>by
  refine aA h λn w h=>?_;exact au.gX n (au.aE rfl h.aG)
theorem yj:bm R8 aT (λr=>ex λn:Nat=>bh (r=some ⟨n,0⟩) (ah n (ad.iz ((Cy.mk 0 0))))):=
 br λw0 S R h=>by
  refine aA h λn w h=>?_;exact au.gX n (au.aE rfl h.aG)
theorem yd:bm R9 aT (λr=>ex λn:Nat=>bh (r=some ⟨n,0⟩) (ah n (ad.iT ((Pb.mk 0 0 false 0 false))))):=
 br λw0 S R h=>by
  refine aA h λn w h=>?_;exact au.gX n (au.aE rfl h.aG)
theorem yG:bm R_ aT (λr=>ex λn:Nat=>bh (r=some ⟨n,0⟩) (ah n (ad.fX ((Pl.mk false false 0 0 0 0 0 0))))):=
 br λw0 S R h=>by
  refine aA h λn w h=>?_;exact au.gX n (au.aE rfl h.aG)
theorem sf(b:Nat)(r:NP):bm (Om (some ⟨b,0⟩)) (ah b (ad.jo r)) (λx=>bh (x=r.n) (ah b (ad.jo r))):=
 br λw0 S R h=>by
  refine ae (λc=>(by cases c)) λ_=>ac (aj h rfl ?_);exact au.aE rfl h.aG
theorem Jn(b:Nat)(c:Cy):bm (RO (some ⟨b,0⟩)) (ah b (ad.iz c)) (λx=>bh (x=c.ph) (ah b (ad.iz c))):=
 br λw0 S R h=>by
  refine ae (λc=>(by cases c)) λ_=>ac (aj h rfl ?_);exact au.aE rfl h.aG
theorem pi(b:Nat)(p:Pp):bm (Dq (some ⟨b,0⟩)) (ah b (ad.jh p)) (λx=>bh (x=p.full) (ah b (ad.jh p))):=
 br λw0 S R h=>by
  refine ae (λ_=>ac (aj h rfl ?_)) λc=>(by cases c);exact au.aE rfl h.aG
theorem o_(b:Nat)(v:Pb):bm (Fk (some ⟨b,0⟩)) (ah b (ad.iT v)) (λx=>bh (x=v.dg) (ah b (ad.iT v))):=
 br λw0 S R h=>by
  refine ae (λc=>(by cases c)) λ_=>ac (aj h rfl ?_);exact au.aE rfl h.aG
theorem Ls(b:Nat)(c:Cy):bm (Sr (some ⟨b,0⟩)) (ah b (ad.iz c)) (λx=>bh (x=cG c) (ah b (ad.iz c))):=
 br λw0 S R h=>by
  refine ae (λ_=>ac (aj h rfl ?_)) λc=>(by cases c);refine ae (λc1=>?_) λc1=>?_
  ·exact au.aE (by unfold cG;rw[aC (by simpa using c1)]) h.aG
  refine ae (λc2=>?_) λc2=>?_
  ·exact au.aE (by unfold cG;rw[ay (by simpa using c1),aC gk]) h.aG
  ·exact au.aE (by unfold cG;rw[ay (by simpa using c1),ay gk]) h.aG
theorem DZ(b:Nat)(q:Pl):bm (OC (some ⟨b,0⟩)) (ah b (ad.fX q)) (λx=>bh (x=(if q.iO then q.bw else 0,q.iO)) (ah b (ad.fX q))):=
 br λw0 S R h=>by
  refine aK h (λ_=>ah b (ad.fX q)) (λ_=>q.iO=true) (λ_ w hu h=>?_) ?_
  ·refine ac (aj h rfl ?_);exact au.aE (by rw[hu];rfl) h
  ·refine ae (λc=>(by cases c)) λ_=>ac (aj h rfl ?_);refine ae (λc=>?_) λc=>?_
   ·have c:q.iO=false:=bV;exact au.aE (by rw[c];rfl) h
   ·exact⟨bV,h⟩
theorem zT(b:Nat)(r:NP)(s:Sm):bm (Tg (some ⟨b,0⟩) s) (ah b (ad.jo r)) (λx=>bh (x=rB r s) (ah b (ad.jo ((rU r s))))):=
 br λw0 S R h=>by
  refine aA h λn w h=>?_;refine cS (λ_:Bool=>ah n (Ks.mk aO s)^ah b (ad.jo r)) (λy:Bool=>y=false) (λ_=>0) h rfl ?_;rintro(y:Bool) w hy h;rw[hy];refine aK h (λ_=>ah n (Ks.mk aO s)^ah b (ad.jo r)) (λ_=>fj s>0) (λ_ w c1 h=>?_) ?_
  ·refine aH h λw h=>aj h rfl (ac (aj h rfl ?_));refine ae (λc2=>?_) λc2=>?_
   ·have e:rB r s=false:=(by unfold rB;simp at c2⊢;intro _;exact c2);have e2:rU r s=r:=(by unfold rU;rw[e];rfl);rw[e2];exact au.aE e.symm h.aG
   ·have e:rB r s=true:=(by unfold rB;simp at c2⊢;exact⟨c1,c2⟩);have e2:rU r s=⟨IntKind.u64.wrap (r.n+1),gp s⟩:=(by unfold rU;rw[e];rfl);rw[e2];refine aj h rfl (ac ?_);refine az h b [.int .u64 r.n,.int .u64 (gp s)] rfl rfl rfl λw h=>?_;refine ac (aj h rfl (ac ?_));refine az h b [.int .u64 (IntKind.u64.wrap (r.n+1)),.int .u64 (gp s)] rfl rfl rfl λw h=>?_;exact au.aE e.symm h.aG
  ·refine ae (λ_=>aj h rfl ?_) λc=>(by cases c);refine ae (λc=>?_) λc=>?_
   ·exact⟨bV,h⟩
   ·have e:rB r s=false:=(by unfold rB;rw[show decide (fj s>0)=false from c];rfl);have e2:rU r s=r:=(by unfold rU;rw[e];rfl);rw[e2];exact au.aE e.symm h.aG
theorem Mt(b:Nat)(p:Pp)(hp:UE p)(a l:Bool)(bw:Int)(hb:U bw):bm (Tk (some ⟨b,0⟩) a l bw) (ah b (ad.jh p)) (λx=>bh (x=(pU p a l bw).full) (ah b (ad.jh ((pU p a l bw))))):=
 br λw0 S R h=>by
  refine aK h (λ_=>ah b (ad.jh ((pU p a l bw)))) (λ_=>True) (λ_ w _ h=>?_) ?_
  ·refine af (pi b (pU p a l bw)) h λr w h=>?_;obtain⟨hr,h⟩:=h.aB;exact au.aE hr h.aG
  refine cS (λ_:Unit=>ah b (ad.jh p)) (λ_:Unit=>True) (λ_=>0) h trivial ?_;rintro _ w _ h;refine aK h (λ_=>ah b (ad.jh p)) (λ_=>(!p.full&&a&&!l)=true) (λ_ w c h=>?_) ?_
  ·refine ac (aj h rfl ?_);refine af (t8 p.dg 320 256 hp.dg (aX _) (aX _)) h λr w h=>?_;obtain⟨hr,h⟩:=h.aB;rw[hr];refine ae (λc2=>?_) λc2=>?_
   ·have c2:bw≥pW p.dg 320 256:=gk;have e:pU p a l bw=⟨bw,0,p.full⟩:=(by unfold pU;rw[aC c,aC c2]);rw[e];refine ac (az h b [.int .u64 bw,.int .i64 p.n,.bool p.full] rfl rfl rfl λw h=>?_);refine ac (az h b [.int .u64 bw,.int .i64 0,.bool p.full] rfl rfl rfl λw h=>?_);exact⟨trivial,h.aG⟩
   ·have c2:¬bw≥pW p.dg 320 256:=gk;have e:pU p a l bw=⟨p.dg,p.n+1,decide (p.n+1=3)⟩:=(by unfold pU;rw[aC c,ay c2]);rw[e];have hn:=hp.n;refine ac (aj h rfl (ac ?_));rw[wi (n:=p.n+1) (by omega) (by omega)];refine az h b [.int .u64 p.dg,.int .i64 (p.n+1),.bool p.full] rfl rfl rfl λw h=>?_;refine ac (aj h rfl (ac ?_));refine az h b [.int .u64 p.dg,.int .i64 (p.n+1),.bool (decide (p.n+1=3))] rfl rfl rfl λw h=>?_;exact⟨trivial,h.aG⟩
  ·refine ae (λ_=>ac (aj h rfl ?_)) λc=>(by cases c);refine ae (λc=>?_) λc=>?_
   ·exact⟨c,h⟩
   ·have e:pU p a l bw=p:=(by unfold pU;rw[ay (by rw[c];simp)]);rw[e];exact⟨trivial,h⟩
theorem ph8{ph:Int}(h0:0≤ph)(h1:ph≤1000):(IntKind.i64.wrap (ph.tmod 8+8)).tmod 8=ph%8:=by
 rw[Eo h0,wi (by omega) (by omega),Eo (by omega)];omega
theorem Hn(b:Nat)(c:Cy)(ao ph:Int)(h0:0≤ph)(h1:ph≤1000):bm (OY (some ⟨b,0⟩) ao ph) (ah b (ad.iz c)) (λ_=>ah b (ad.iz ((K0 ao ph)))):=
 br λw0 S R h=>by
  refine ae (λ_=>?_) λc=>(by cases c);rw[ph8 h0 h1];refine ac (az h b [.int .i64 (ph%8),.int .u64 c.kE] rfl rfl rfl λw h=>?_);refine ac (az h b [.int .i64 (ph%8),.int .u64 ao] rfl rfl rfl λw h=>?_);exact au.bk (A:=ah b (ad.iz ((K0 ao ph)))) h
def cE(c:Cy)(over:Bool)(be fl up one:Int):Bool:=if c.ph=0 then over&&(decide (be>0)||decide (fl≥up))else if c.ph=1 then over||decide (fl≤one)else over
theorem X0(c:Cy)(ao bG be fl up one:Int):cE c (decide (dF ao c.kE>bG)) be fl up one=cB c ao bG be fl up one:=rfl
theorem IK(b:Nat)(c:Cy)(over:Bool)(be fl up one:Int):bm (Tw (some ⟨b,0⟩) over be fl up one) (ah b (ad.iz c)) (λx=>bh (x=cE c over be fl up one) (ah b (ad.iz c))):=
 br λw0 S R h=>by
  refine ac (aj h rfl ?_);refine ae (λc1=>?_) λc1=>?_
  ·exact au.aE (by unfold cE;rw[aC (by simpa using c1)]) h.aG
  refine ae (λc2=>?_) λc2=>?_
  ·exact au.aE (by unfold cE;rw[ay (by simpa using c1),aC gk]) h.aG
  ·exact au.aE (by unfold cE;rw[ay (by simpa using c1),ay gk]) h.aG
theorem K3(b:Nat)(c:Cy)(hc:Af c)(ao bG be fl up one:Int)(hn:U ao):bm (Tj (some ⟨b,0⟩) ao bG be fl up one) (ah b (ad.iz c)) (λx=>ah b (ad.iz ((cU c ao bG be fl up one)))):=
 br λw0 S R h=>by
  refine cS (λ_:Bool=>ah b (ad.iz c)) (λ_:Bool=>True) (λ_=>0) h trivial ?_;rintro _ w _ h;refine aK h (λ_=>ah b (ad.iz c)) (λ_=>cB c ao bG be fl up one=true) (λ_ w c1 h=>?_) ?_
  ·have hp:=hc.ph;refine ac (aj h rfl ?_);rw[wi (n:=c.ph+1) (by omega) (by omega)];refine af (Hn b c ao (c.ph+1) (by omega) (by omega)) (h.le (aF _)) λr w h=>?_;have e:cU c ao bG be fl up one=K0 ao (c.ph+1):=(by unfold cU;rw[aC c1]);rw[e];exact h.bk
  ·refine ae (λ_=>ac (aj h rfl ?_)) λc=>(by cases c);refine af (iN ao c.kE hn hc.kE) h λr w h=>?_;obtain⟨hr,h⟩:=h.aB;rw[hr];refine af (IK b c _ be fl up one) h λr w h=>?_;obtain⟨hr,h⟩:=h.aB;rw[hr,X0];refine ae (λc1=>?_) λc1=>?_
   ·exact⟨c1,h.aG⟩
   ·have e:cU c ao bG be fl up one=c:=(by unfold cU;rw[c1];rfl);rw[e];exact h.aG
end JX

end Go.X
