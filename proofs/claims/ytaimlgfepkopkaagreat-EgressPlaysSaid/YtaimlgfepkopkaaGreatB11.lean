/- Contracts and plain facts: RsE RsF RsG RsH RsI RsJ RsL. -/
import Derived.Test.YtaimlgfepkopkaaGreatB10
set_option linter.all false
namespace Go.X
open Go.Proofs
namespace NQ
open bB bi eA r_ xU dY fk dZ JU
abbrev eV(u:Sk)(e:Int):Sk:={u with bd:=(u.bd.1,e)}
def jf(b:Nat)(m0 c0:Int)(u:Sk)(mq:Nat)(v:List Pc×Int):SP:=ex λs=>ah b (rL m0 c0 (eV u v.2) s mq)^aP s aD v.1
instance(b:Nat)(m0 c0:Int)(u:Sk)(mq:Nat)(v:List Pc×Int):qq (jf b m0 c0 u mq v):=by unfold jf;infer_instance
theorem _root_.Go.X.au.jf{w0 w:World}{S0 R0:Nat→Prop}{F G:SP}{m0 c0:Int}{u:Sk}{mq:Nat}{v:List Pc×Int}(h:au w0 S0 R0 w F)(b:Nat)[t:Take (NQ.jf b m0 c0 u mq v) F G]:∃s,au w0 S0 R0 w (ah b (rL m0 c0 (eV u v.2) s mq)^aP s aD v.1^G):=by
 obtain⟨s,h⟩:=(h.le t.le).lX;exact⟨s,h.le (cy _ _ _)⟩
theorem _root_.Go.X.au.gI{w0 w:World}{S0 R0:Nat→Prop}{F G:SP}(h:au w0 S0 R0 w F)(b:Nat)(m0 c0:Int)(u:Sk)(mq:Nat)(s:Sl)(l:List Pc)(e:Int)[t:Take (ah b (rL m0 c0 (eV u e) s mq)^aP s aD l) F G]:au w0 S0 R0 w (NQ.jf b m0 c0 u mq (l,e)^G):=
 (h.le t.le).s_ (f:=λs=>ah b (rL m0 c0 (eV u e) s mq)^aP s aD l) s
theorem nk(b:Nat)(m0 c0:Int)(u:Sk)(mq:Nat)(v:List Pc×Int)(hl:v.1.length≤4294967296):bm (Fh (some ⟨b,7⟩)) (jf b m0 c0 u mq v) (λr=>bh (r=dh v.1) (jf b m0 c0 u mq v)):=
 br λw0 S R h=>by
  obtain⟨s,h⟩:=(h.le (aF _)).jf (m0:=m0) (c0:=c0) (u:=u) (mq:=mq) (v:=v) b;have h:au w0 S R w0 (aP s aD v.1^ah b (rL m0 c0 (eV u v.2) s mq)):=h.aG;have hs:=(h.rd (s:=s)).2;refine cS (λ(_:Int×Int)=>aP s aD v.1^ah b (rL m0 c0 (eV u v.2) s mq)) (λ(y:Int×Int)=>(0≤y.2∧y.2≤v.1.length)∧y.1=dh (v.1.take y.2.toNat)) (λ(y:Int×Int)=>v.1.length-y.2.toNat) h ⟨⟨by simp,by simp⟩,rfl⟩ ?_;rintro(⟨n,i⟩:Int×Int) w ⟨⟨h0,h1⟩,h2⟩ h;dsimp only at h0 h1 h2 h⊢;refine ac (aj h rfl ?_);refine ae (λc=>?_) λc=>?_
  ·have hi:i.toNat<v.1.length:=(by simp at c;omega);obtain⟨p,hp⟩:∃p,v.1[i.toNat]?=some p:=⟨_,bT hi⟩;have e:(i+1).toNat=i.toNat+1:=(by omega);have hfl:=ov hp;rw[wi (n:=i+1) (by omega) (by omega)];refine aK h (λ_=>aP s aD v.1^ah b (rL m0 c0 (eV u v.2) s mq)) (λ(y:Bool)=>y=kW p) (λ(y:Bool) w hy h=>?_) ?_
   ·refine ae (λc=>?_) λc=>?_
    ·refine aH h λw h=>?_;refine ac (ac (aj h rfl (aj h rfl ?_)));refine bR h h0 hi (bR h h0 hi ?_);refine eU h s i.toNat 1 p hp rfl (by decide) rfl ?_;refine eU h s i.toNat 0 p hp rfl (by decide) rfl ?_;refine⟨⟨⟨⟨by show 0≤i+1;omega,by show i+1≤_;omega⟩,?_⟩,h⟩,by show _-(i+1).toNat<_;omega⟩;show IntKind.u64.wrap (IntKind.u64.wrap (n+w8 p)-iA p)=dh (v.1.take (i+1).toNat);rw[e,hfl,tJ,aC (by rw[←hy];exact c),←h2,Hf]
    ·refine⟨⟨⟨⟨by show 0≤i+1;omega,by show i+1≤_;omega⟩,?_⟩,h⟩,by show _-(i+1).toNat<_;omega⟩;show n=dh (v.1.take (i+1).toNat);rw[e,hfl,tJ,ay (by rw[←hy,c];simp),h2]
   ·refine ac (aj h rfl ?_);refine bR h h0 hi ?_;refine eU h s i.toNat 7 p hp rfl (by decide) rfl ?_;refine ae (λc=>?_) λc=>?_
    ·refine ac (aj h rfl ?_);refine bR h h0 hi ?_;refine eU h s i.toNat 8 p hp rfl (by decide) rfl ?_;exact⟨by have c:(!xI p)=true:=c;rw[kW,c];rfl,h⟩
    ·exact⟨by have c:(!xI p)=false:=c;rw[kW,c];rfl,h⟩
  ·have hi:i.toNat=v.1.length:=(by simp at c;omega);rw[hi,rK]at h2;exact au.aE h2 ((h.le (aV _ _)).gI b m0 c0 u mq s v.1 v.2).aG
theorem zA(b:Nat)(m0 c0:Int)(u:Sk)(mq:Nat)(v:List Pc×Int)(hl:v.1.length≤4294967296):bm (OR (some ⟨b,7⟩)) (jf b m0 c0 u mq v) (λr=>bh (r=fI jr v.1) (jf b m0 c0 u mq v)):=
 br λw0 S R h=>by
  obtain⟨s,h⟩:=(h.le (aF _)).jf (m0:=m0) (c0:=c0) (u:=u) (mq:=mq) (v:=v) b;have h:au w0 S R w0 (aP s aD v.1^ah b (rL m0 c0 (eV u v.2) s mq)):=h.aG;have hs:=(h.rd (s:=s)).2;refine cS (λ(_:Int)=>aP s aD v.1^ah b (rL m0 c0 (eV u v.2) s mq)) (λ(i:Int)=>(0≤i∧i≤v.1.length)∧∀j y,j<i.toNat→v.1[j]?=some y→jr y=false) (λ(i:Int)=>v.1.length-i.toNat) h ⟨⟨by simp,by simp⟩,λj y hj=>by simp at hj⟩ ?_;rintro(i:Int) w ⟨⟨h0,h1⟩,h2⟩ h;refine ac (aj h rfl ?_);refine ae (λc=>?_) λc=>?_
  ·have hi:i.toNat<v.1.length:=(by simp at c;omega);obtain⟨p,hp⟩:∃p,v.1[i.toNat]?=some p:=⟨_,bT hi⟩;have e:(i+1).toNat=i.toNat+1:=(by omega);refine ac (aj h rfl ?_);refine bR h h0 hi ?_;refine eU h s i.toNat 8 p hp rfl (by decide) rfl ?_;refine ae (λc=>?_) λc=>?_
   ·refine au.aE ?_ ((h.le (aV _ _)).gI b m0 c0 u mq s v.1 v.2).aG;rw[DK hp c h2];exact(zc h0).symm
   ·rw[wi (n:=i+1) (by omega) (by omega)];refine⟨⟨⟨⟨by show 0≤i+1;omega,by show i+1≤_;omega⟩,λj y hj hy=>?_⟩,h⟩,by show _-(i+1).toNat<_;omega⟩;have hj:j<(i+1).toNat:=hj;by_cases hji:j=i.toNat
    ·rw[hji,hp]at hy;cases hy;exact c
    ·exact h2 j y (by omega) hy
  ·have hi:i.toNat=v.1.length:=(by simp at c;omega);refine au.aE ?_ ((h.le (aV _ _)).gI b m0 c0 u mq s v.1 v.2).aG;rw[uH];intro y hy;obtain⟨j,hj,rfl⟩:=Bi.1 hy;exact h2 j _ (by omega) (bT hj)
theorem Gx(b:Nat)(m0 c0:Int)(u:Sk)(mq:Nat)(v:List Pc×Int)(hl:v.1.length≤4294967296):bm (SC (some ⟨b,7⟩)) (jf b m0 c0 u mq v) (λr=>bh (r=bx v.1) (jf b m0 c0 u mq v)):=
 br λw0 S R h=>by
  refine aA h λn1 w h=>?_;refine af (zA b m0 c0 u mq v hl) h λr w h=>?_;obtain⟨hr,h⟩:=h.aB;rw[hr];refine ae (λc=>?_) λc=>?_
  ·refine aU h rfl λw h=>?_;dsimp only[dj,over]at h;refine ar (x:=((0:Int),(0:Int))) h rfl ?_;exact au.aE (rC bV).symm h.aG
  ·have hpos:0≤fI jr v.1:=(by simp at c;omega);obtain⟨p,hp,_,hlt,_⟩:=sm hpos;obtain⟨s,h⟩:=h.jf (m0:=m0) (c0:=c0) (u:=u) (mq:=mq) (v:=v) b;have h:au w0 S R w (aP s aD v.1^ah b (rL m0 c0 (eV u v.2) s mq)^ah n1 [.int .u64 0,.int .u64 0]):=h.aG;refine aH h λw h=>?_;refine ac (ac (aj h rfl (aj h rfl ?_)));refine bR h hpos hlt (bR h hpos hlt ?_);refine eU h s _ 0 p hp rfl (by decide) rfl ?_;refine eU h s _ 1 p hp rfl (by decide) rfl ?_;refine aU h rfl λw h=>?_;dsimp only[dj,over]at h;refine ar (x:=(p.1,p.2.1)) h rfl ?_;exact au.aE (sA hpos hp).symm (h.gI b m0 c0 u mq s v.1 v.2).aG
theorem Gz(b:Nat)(m0 c0:Int)(u:Sk)(mq:Nat)(f t:Int)(s:BB)(v:List Pc×Int):
  bm (SI (some ⟨b,7⟩) f t s) (jf b m0 c0 u mq v)
   (λr=>bh (r=(dP v f t s).1) (jf b m0 c0 u mq (dP v f t s).2)):=
 br λw0 S R h=>by
  refine aA h λn1 w h=>?_;obtain⟨sl,h⟩:=h.jf (m0:=m0) (c0:=c0) (u:=u) (mq:=mq) (v:=v) b;have hlen:=(h.rd (s:=sl)).2;refine ac (aj h rfl ?_);refine ae (λhc=>?_) λhc=>?_
  ·have e1:dP v f t s=(1,v):=(by simp at hc;simp[dP,hc]);rw[e1];exact au.aE rfl (h.gI b m0 c0 u mq sl v.1 v.2).bk
  ·refine ac (aj h rfl ?_);refine ae (λhc2=>?_) λhc2=>?_
   ·have e1:dP v f t s=(5,v):=by
     simp at hc hc2;rw[dP,ay (by omega),aC (by omega)]
    rw[e1];exact au.aE rfl (h.gI b m0 c0 u mq sl v.1 v.2).bk
   ·have e1:dP v f t s=(0,(v.1++[t9 f t s],t)):=by
     simp at hc hc2;rw[dP,ay (by omega),ay (by omega)]
    have hl4:v.1.length<4096:=(by simp at hc2;omega);rw[e1];refine aH h λw h=>?_;refine ar h rfl ?_;refine ac (aj h rfl ?_);refine⟨?_,?_⟩
    ·have h:=h.nil aD;refine dE (K:=aD) (s:=⟨none,0,0⟩) (x:=sl) h rfl (by simp;omega) λs9 w hl h=>?_;have h:=h.eB (s:=s9) (K:=aD) (oE _);refine aJ h ?_;refine aA h λn10 w h=>?_;refine aI h rfl ?_;have h:=h.cT n10 aD [t9 f t s] rfl (by simp);refine dE (K:=aD) (s:=s9) (x:=⟨some ⟨n10,0⟩,1,1⟩) h rfl (by simp;omega) λs10 w hl h=>?_;refine ac (az h b (rL m0 c0 (eV u v.2) s10 mq) rfl rfl rfl λw h=>?_);refine ac (az h b (rL m0 c0 (eV u t) s10 mq) rfl rfl rfl λw h=>?_);exact au.aE rfl (h.gI b m0 c0 u mq s10 (v.1++[t9 f t s]) t).bk
    ·refine aA h λn10 w h=>?_;refine aI h rfl ?_;have h:=h.cT n10 aD [t9 f t s] rfl (by simp);have h:=h.nil aD;refine dE (K:=aD) (s:=⟨none,0,0⟩) (x:=sl) h rfl (by simp;omega) λs9 w hl h=>?_;have h:=h.eB (s:=s9) (K:=aD) (oE _);refine aJ h ?_;refine dE (K:=aD) (s:=s9) (x:=⟨some ⟨n10,0⟩,1,1⟩) h rfl (by simp;omega) λs10 w hl h=>?_;refine ac (az h b (rL m0 c0 (eV u v.2) s10 mq) rfl rfl rfl λw h=>?_);refine ac (az h b (rL m0 c0 (eV u t) s10 mq) rfl rfl rfl λw h=>?_);exact au.aE rfl (h.gI b m0 c0 u mq s10 (v.1++[t9 f t s]) t).bk
theorem Gy(b:Nat)(m0 c0:Int)(u:Sk)(mq:Nat)(v:List Pc×Int)(hl:v.1.length≤4294967295):bm (RT (some ⟨b,7⟩)) (jf b m0 c0 u mq v) (λx=>bh (x=dh v.1) (jf b m0 c0 u mq (v.1.map eX,v.2))):=
 br λw0 S R h=>by
  refine af (nk b m0 c0 u mq v (by omega)) (h.le (aF _)) λr1 w h=>?_;obtain⟨hr1,h⟩:=h.aB;obtain⟨s,h⟩:=h.jf (m0:=m0) (c0:=c0) (u:=u) (mq:=mq) (v:=v) b;have hs:=(h.rd (s:=s)).2;have h:=h.nil aD;have h:au w0 S R w (aP ⟨none,0,0⟩ aD []^aP s aD v.1^ah b (rL m0 c0 (eV u v.2) s mq)):=h.aG;refine cS (λ(y:Sl×Int)=>aP y.1 aD ((v.1.take y.2.toNat).map eX)^aP s aD v.1^ah b (rL m0 c0 (eV u v.2) s mq)) (λ(y:Sl×Int)=>0≤y.2∧y.2≤v.1.length) (λ(y:Sl×Int)=>v.1.length-y.2.toNat) h ⟨by simp,by simp⟩ ?_;rintro(⟨t,i⟩:Sl×Int) w ⟨h0,h1⟩ h;dsimp only at h0 h1 h⊢;refine ac (aj h rfl ?_);refine ae (λc=>?_) λc=>?_
  ·have hi:i.toNat<v.1.length:=(by simp at c;omega);obtain⟨p,hp⟩:∃p,v.1[i.toNat]?=some p:=⟨_,bT hi⟩;have e:(i+1).toNat=i.toNat+1:=(by omega);have ht:(v.1.take (i.toNat+1)).map eX=(v.1.take i.toNat).map eX++[eX p]:=(by rw[lF,hp];simp);have h':=h.le (fW _ _ _);refine ac (aj h rfl ?_);refine bR h' h0 hi ?_;refine dW h' s i.toNat hp rfl ?_;refine aA h λn w h=>?_;refine aw h (by rfl) λw h=>?_;refine aK h (λ_=>ah n (Ks.mk aD (eX p))^aP t aD ((v.1.take i.toNat).map eX)^aP s aD v.1^ah b (rL m0 c0 (eV u v.2) s mq)) (λ_=>True) (λy w _ h=>?_) ?_
   ·refine ar h rfl ?_;refine aA h λm w h=>?_;have h:=h.cT m aD [eX p] rfl (by simp);refine dE (K:=aD) (s:=t) (x:=⟨some ⟨m,0⟩,1,1⟩) h rfl (by simp;omega) λs' w _ h=>?_;have h:=h.eB (s:=s') (K:=aD) (ys:=(v.1.take (i+1).toNat).map eX) (by rw[e,ht]);rw[wi (n:=i+1) (by omega) (by omega)];exact⟨⟨⟨by show 0≤i+1;omega,by show i+1≤_;omega⟩,h.aG⟩,by show _-(i+1).toNat<_;omega⟩
   ·refine aj h rfl ?_;have hlo:=Px p;refine ae (λc=>?_) λc=>?_
    ·have c:jr p=true:=c;rw[aC c]at hlo;refine aU h rfl λw h=>?_;have h:au w0 S R w (ah n (Ks.mk aD (gV p true))^_):=h;rw[hlo]at h;exact⟨trivial,h.aG⟩
    ·have c:jr p=false:=c;rw[ay (by rw[c];simp)]at hlo;refine aj h rfl ?_;refine aU h rfl λw h=>?_;have h:au w0 S R w (ah n (Ks.mk aD (gV p (!xI p)))^_):=h;rw[hlo]at h;exact⟨trivial,h.aG⟩
  ·have hi:i.toNat=v.1.length:=(by simp at c;omega);rw[hi,rK]at h;refine ac (az h b (rL m0 c0 (eV u v.2) t mq) rfl rfl rfl λw h=>?_);exact au.aE hr1 (h.gI b m0 c0 u mq t (v.1.map eX) v.2).aG
theorem Et(b:Nat)(m0 c0:Int)(u:Sk)(mq:Nat)(s:BB)(v:List Pc×Int)(hl:v.1.length≤4294967296):bm (SG (some ⟨b,7⟩) s) (jf b m0 c0 u mq v) (λr=>bh (r=bx v.1) (jf b m0 c0 u mq (dw v.1 s,v.2))):=
 br λw0 S R h=>by
  refine aA h λn1 w h=>?_;refine aA h λn2 w h=>?_;refine af (zA b m0 c0 u mq v hl) h λr w h=>?_;obtain⟨hr,h⟩:=h.aB;rw[hr];refine ae (λc=>?_) λc=>?_
  ·have hneg:fI jr v.1<0:=bV;have e:dw v.1 s=v.1:=(by unfold dw;split<;>simp[hneg]);refine aU h rfl λw h=>?_;dsimp only[dj,over]at h;refine ar (x:=((0:Int),(0:Int))) h rfl ?_;rw[e];exact au.aE (rC hneg).symm h.aG
  ·have hpos:0≤fI jr v.1:=(by simp at c;omega);obtain⟨p,hp,_,hlt,_⟩:=sm hpos;have e:dw v.1 s=v.1.set (fI jr v.1).toNat (lW p s):=by
    unfold dw;rw[hp];simp only;rw[ay (by omega)]
   obtain⟨sl,h⟩:=h.jf (m0:=m0) (c0:=c0) (u:=u) (mq:=mq) (v:=v) b;refine ac (aj h rfl ?_);have h:=h.nil aD;refine dE (K:=aD) (s:=⟨none,0,0⟩) (x:=sl) h rfl (by simp;omega) λs7 w hl7 h=>?_;have h:=h.eB (s:=s7) (K:=aD) (oE _);refine aH h λw h=>?_;refine ar h rfl ?_;refine bR h hpos hlt ?_;refine lT h s7 _ 8 p (gV p false) hp rfl (by decide) (by simp) rfl λw h=>?_;have hp2:(v.1.set (fI jr v.1).toNat (gV p false))[(fI jr v.1).toNat]?=some (gV p false):=by rw[rJ hlt]
   refine aJ h ?_;refine bR h hpos (by rw[qB];exact hlt) ?_;refine lT h s7 _ 2 (gV p false) (lW p s) hp2 rfl (by simp[Ks.len]) (by simp[Ks.mk]) rfl λw h=>?_;rw[Gu]at h;have hp3:(v.1.set (fI jr v.1).toNat (lW p s))[(fI jr v.1).toNat]?=some (lW p s):=by rw[rJ hlt]
   refine ac (az h b (rL m0 c0 (eV u v.2) s7 mq) rfl rfl rfl λw h=>?_);refine aH h λw h=>?_;have h:=h.take (aP s7 aD (v.1.set (fI jr v.1).toNat (lW p s)));refine bR h hpos (by rw[qB];exact hlt) (bR h hpos (by rw[qB];exact hlt) ?_);refine eU h s7 _ 0 _ hp3 rfl (by decide) rfl ?_;refine eU h s7 _ 1 _ hp3 rfl (by decide) rfl ?_;refine aU h rfl λw h=>?_;dsimp only[dj,over]at h;refine ar (x:=(p.1,p.2.1)) h rfl ?_;rw[e];exact au.aE (sA hpos hp).symm (h.gI b m0 c0 u mq s7 (v.1.set (fI jr v.1).toNat (lW p s)) v.2).aG
def oo(b:Nat)(m0 c0:Int)(u:Sk)(mq:Nat)(v:List Pc×Int)(upto:Int)(xs:List (Int×Int))(r:Sl×Int×Int):SP:=
 cond (tZ v upto xs) (bh (r.2.1=(cm (eD upto xs v.1)).2.1∧r.2.2=0) (aP r.1 aD (fD upto xs v.1)^jf b m0 c0 u mq ((cm (eD upto xs v.1)).1,v.2)))
  (bh (r.1=⟨none,0,0⟩∧r.2.1=0∧r.2.2=11) (aP r.1 aD []^jf b m0 c0 u mq v))
theorem Jp(b:Nat)(m0 c0:Int)(u:Sk)(mq:Nat)(v:List Pc×Int)(upto:Int)(a:Sl)(xs:List (Ks.T KR))(hl:v.1.length≤4294967295)(hx:xs.length≤4294967296):
  bm (Kr (some ⟨b,7⟩) upto a) (jf b m0 c0 u mq v^ba a KR xs) (oo b m0 c0 u mq v upto xs):=
 br λw0 S R h=>by
  obtain⟨s,h⟩:=h.jf (m0:=m0) (c0:=c0) (u:=u) (mq:=mq) (v:=v) b;have h:au w0 S R w0 (ba a KR xs^ah b (rL m0 c0 (eV u v.2) s mq)^aP s aD v.1):=h.aG;have ha:=(h.rd (s:=a)).2;have hs:=((h.take (aP s aD v.1)).rd (s:=s)).2;refine ac (aj h rfl ?_);refine cS (λ(_:Bool×Int)=>ba a KR xs^ah b (rL m0 c0 (eV u v.2) s mq)^aP s aD v.1) (λ(y:Bool×Int)=>(0≤y.2∧y.2≤xs.length)∧y.1=(decide (upto>v.2)||(xs.take y.2.toNat).any (dm v.2))) (λ(y:Bool×Int)=>xs.length-y.2.toNat) h ⟨⟨by simp,by simp⟩,by simp⟩ ?_;rintro(⟨bad,i⟩:Bool×Int) w ⟨⟨h0,h1⟩,h2⟩ h;dsimp only at h0 h1 h2 h⊢;refine ae (λc=>?_) λc=>?_
  ·have hi:i.toNat<xs.length:=(by simp at c;omega);obtain⟨x,hx⟩:∃x,xs[i.toNat]?=some x:=⟨_,bT hi⟩;have e:(i+1).toNat=i.toNat+1:=(by omega);have hbt:=Kd (e:=v.2) hx;rw[wi (n:=i+1) (by omega) (by omega)];refine aH h λw h=>?_;have hgo:∀c:Bool,c=(bad||dm v.2 x)→(((0≤(c,i+1).2∧(c,i+1).2≤(xs.length:Int))∧(c,i+1).1=(decide (upto>v.2)||(xs.take (c,i+1).2.toNat).any (dm v.2)))∧au w0 S R w (ba a KR xs^ah b (rL m0 c0 (eV u v.2) s mq)^aP s aD v.1))∧xs.length-(c,i+1).2.toNat<xs.length-(bad,i).2.toNat:=λc hc=>by
    dsimp only;rw[e,hbt,hc,h2,Bool.or_assoc];exact⟨⟨⟨⟨by omega,by omega⟩,rfl⟩,h⟩,by omega⟩
   refine ae (λc=>?_) λc=>?_
   ·exact hgo true (by have c:bad=true:=c;rw[c];rfl)
   ·have hb0:bad=false:=c;refine bR h h0 hi (ac ?_);refine eU h a i.toNat 1 x hx rfl (by decide) rfl ?_;refine aj h rfl ?_;refine ae (λc=>?_) λc=>?_
    ·exact hgo true (by have c:decide (x.2>v.2)=true:=c;rw[dm,c];simp)
    ·refine bR h h0 hi (bR h h0 hi ?_);refine eU h a i.toNat 0 x hx rfl (by decide) rfl ?_;refine eU h a i.toNat 1 x hx rfl (by decide) rfl ?_;exact hgo _ (by have c:decide (x.2>v.2)=false:=c;rw[hb0,dm,c];rfl)
  have hi:i.toNat=xs.length:=by simp at c;omega
  rw[hi,rK]at h2;have hbm:bad=!tZ v upto xs:=by
   rw[h2,tZ,Bool.not_and,wl];congr 1;by_cases hh:upto≤v.2
   ·rw[kV hh,mZ (by omega)];rfl
   ·rw[mZ hh,kV (by omega)];rfl
  refine ae (λc=>?_) λc=>?_
  ·have hm:tZ v upto xs=false:=(by rw[show bad=true from c]at hbm;simpa using hbm.symm);have h:=(h.nil aD).gI b m0 c0 u mq s v.1 v.2;show au _ _ _ _ (oo b m0 c0 u mq v upto xs _);rw[oo,hm];exact au.aE ⟨rfl,rfl,rfl⟩ h.aG
  have hm:tZ v upto xs=true:=by rw[show bad=false from c]at hbm;simpa using hbm.symm
  have h:=(h.nil aD).nil aD;have h:au w0 S R w (aP s aD v.1^ah b (rL m0 c0 (eV u v.2) s mq)^aP ⟨none,0,0⟩ aD []^aP ⟨none,0,0⟩ aD []^ba a KR xs):=h.aG;refine cS (λ(y:Sl×Sl×Int)=>aP s aD v.1^ah b (rL m0 c0 (eV u v.2) s mq)^aP y.1 aD (eD upto xs (v.1.take y.2.2.toNat))^aP y.2.1 aD (fD upto xs (v.1.take y.2.2.toNat))^ba a KR xs)
   (λ(y:Sl×Sl×Int)=>0≤y.2.2∧y.2.2≤v.1.length) (λ(y:Sl×Sl×Int)=>v.1.length-y.2.2.toNat) h ⟨by simp,by simp⟩ ?_
  rintro(⟨rs,ts,i⟩:Sl×Sl×Int) w ⟨h0,h1⟩ h;dsimp only at h0 h1 h⊢;refine ac (aj h rfl ?_);refine ae (λc=>?_) λc=>?_
  ·have hi:i.toNat<v.1.length:=(by simp at c;omega);obtain⟨p,hp⟩:∃p,v.1[i.toNat]?=some p:=⟨_,bT hi⟩;have ht:=zZ (upto:=upto) (xs:=xs) hp;have hrt:=zN (upto:=upto) (xs:=xs) hp;have hlt:=Bs upto xs v.1 i.toNat;have hlr:=pA upto xs v.1 i.toNat;have e:(i+1).toNat=i.toNat+1:=(by omega);rw[wi (n:=i+1) (by omega) (by omega)];refine ac (aj h rfl ?_);refine bR h h0 hi ?_;refine dW h s i.toNat hp rfl ?_;refine aA h λn w h=>?_;refine aw h (by rfl) λw h=>?_;refine aK h (λ_=>ah n (Ks.mk aD p)^aP s aD v.1^ah b (rL m0 c0 (eV u v.2) s mq)^aP rs aD (eD upto xs (v.1.take i.toNat))^aP ts aD (fD upto xs (v.1.take i.toNat))^ba a KR xs)
    (λ(y:Bool×Bool)=>y.1=decide (p.2.1≤upto)∧y.2=(!xI p&&xs.any (sX p))) (λ(y:Bool×Bool) w hy h=>?_) ?_
   ·obtain⟨hy1,hy2⟩:=hy;refine aK h (λ(z:Sl)=>ah n (Ks.mk aD p)^aP s aD v.1^ah b (rL m0 c0 (eV u v.2) s mq)^aP rs aD (eD upto xs (v.1.take i.toNat))^aP z aD (fD upto xs (v.1.take (i.toNat+1)))^ba a KR xs) (λ_=>True) (λ(z:Sl) w _ h=>?_) ?_
    ·refine ae (λc=>?_) λc=>?_
     ·have hu:p.2.1≤upto:=(by rw[hy1]at c;simpa using c);rw[aC hu,rM]at hrt;refine⟨⟨⟨by show 0≤i+1;omega,by show i+1≤_;omega⟩,?_⟩,by show _-(i+1).toNat<_;omega⟩;show au _ _ _ _ (aP s aD v.1^ah b (rL m0 c0 (eV u v.2) s mq)^aP rs aD (eD upto xs (v.1.take (i+1).toNat))^aP z aD (fD upto xs (v.1.take (i+1).toNat))^ba a KR xs);rw[e,hrt];exact h.aG
     ·have hu:¬p.2.1≤upto:=(by rw[hy1]at c;simpa using c);rw[ay hu]at hrt;have hmk:ox upto xs p=if y.2 then xj p else p:=by
       rw[ox,rW,mZ hu,zj,hy2]
      refine aK h (λ_=>ah n (Ks.mk aD (ox upto xs p))^aP s aD v.1^ah b (rL m0 c0 (eV u v.2) s mq)^aP rs aD (eD upto xs (v.1.take i.toNat))^aP z aD (fD upto xs (v.1.take (i.toNat+1)))^ba a KR xs) (λ_=>True) (λ_ w _ h=>?_) ?_
      ·refine ar h rfl ?_;refine aA h λm w h=>?_;have h:=h.cT m aD [ox upto xs p] rfl (by simp);refine dE (K:=aD) (s:=rs) (x:=⟨some ⟨m,0⟩,1,1⟩) h rfl (by simp;omega) λs' w _ h=>?_;refine⟨⟨⟨by show 0≤i+1;omega,by show i+1≤_;omega⟩,?_⟩,by show _-(i+1).toNat<_;omega⟩;show au _ _ _ _ (aP s aD v.1^ah b (rL m0 c0 (eV u v.2) s mq)^aP s' aD (eD upto xs (v.1.take (i+1).toNat))^aP z aD (fD upto xs (v.1.take (i+1).toNat))^ba a KR xs);rw[e,hrt];exact h.aG
      ·refine ae (λc2=>?_) λc2=>?_
       ·have c2:y.2=true:=c2;rw[c2,aC rfl]at hmk;refine aU h rfl λw h=>?_;refine aU h rfl λw h=>?_;have h:au w0 S R w (ah n (Ks.mk aD (xj p))^_):=h;rw[←hmk]at h;exact⟨trivial,h.aG⟩
       ·have c2:y.2=false:=c2;rw[c2,ay (by simp)]at hmk;exact⟨trivial,by rw[hmk];exact h⟩
    ·refine aK h (λ_=>ah n (Ks.mk aD p)^aP s aD v.1^ah b (rL m0 c0 (eV u v.2) s mq)^aP rs aD (eD upto xs (v.1.take i.toNat))^aP ts aD (fD upto xs (v.1.take i.toNat))^ba a KR xs) (λ(z:Bool)=>z=rW upto xs p) (λ(z:Bool) w hz h=>?_) ?_
     ·refine ae (λc=>?_) λc=>?_
      ·have c:z=true:=c;rw[←hz,c,aC rfl]at ht;refine ar h rfl ?_;refine aA h λm w h=>?_;have h:=h.cT m aD [p] rfl (by simp);refine dE (K:=aD) (s:=ts) (x:=⟨some ⟨m,0⟩,1,1⟩) h rfl (by simp;omega) λs' w _ h=>?_;rw[ht];exact⟨trivial,h.aG⟩
      ·have c:z=false:=c;rw[←hz,c]at ht;simp only[iW,iX,rM]at ht;rw[ht];exact⟨trivial,h⟩
     ·refine ae (λc=>?_) λc=>?_
      ·have c:y.1=true:=c;refine aj h rfl ?_;refine⟨?_,h⟩;show(!xI p||(!y.1&&y.2))=_;rw[c]at hy1⊢;rw[rW,←hy1];simp
      ·have c:y.1=false:=c;refine⟨?_,h⟩;show(!y.1&&y.2)=_;rw[c]at hy1⊢;rw[rW,←hy1,hy2];simp
   ·refine aH h λw h=>?_;refine aj h rfl (aj h rfl ?_);refine ae (λc=>?_) λc=>?_
    ·have c:(!xI p)=true:=c;refine ar h rfl ?_;refine bI (A:=aT) (Q:=ba a KR xs) (CD p a xs hx) (h.le (aF _ |>.trans (aV _ _))) λr w h=>?_;obtain⟨hr,h⟩:=h.aB;refine aI h rfl ?_;exact⟨⟨rfl,by show r=_;rw[hr,c];rfl⟩,h.aG⟩
    ·have c:(!xI p)=false:=c;exact⟨⟨rfl,by show false=_;rw[c];rfl⟩,h⟩
  have hi:i.toNat=v.1.length:=by simp at c;omega
  rw[hi,rK]at h;have hrl:(eD upto xs v.1).length≤v.1.length:=by
   have:=pA upto xs v.1 v.1.length;rwa[rK]at this
  generalize hL:eD upto xs v.1=L at h hrl;have hlen:=((h.take (aP rs aD L)).rd (s:=rs)).2;have hwn:IntKind.i64.wrap (((rs.len:Nat):Int)-1)=(L.length:Int)-1:=by rw[hlen];exact wi (by omega) (by omega)
  rw[hwn];have e1:cm (L.drop ((L.length:Int)-1+1).toNat)=([],0,0):=by
   have e:((L.length:Int)-1+1).toNat=L.length:=(by omega);rw[e];simp[cm]
  have e0:L.take ((L.length:Int)-1+1).toNat++(cm (L.drop ((L.length:Int)-1+1).toNat)).1=L:=by
   rw[e1,rM,kp (by omega)]
  have h:au w0 S R w (aP rs aD (L.take ((L.length:Int)-1+1).toNat++(cm (L.drop ((L.length:Int)-1+1).toNat)).1)^ah b (rL m0 c0 (eV u v.2) s mq)^aP ts aD (fD upto xs v.1)):=by rw[e0];exact h.aG
  refine cS (λ(y:Int×Int×Int)=>aP rs aD (L.take (y.2.2+1).toNat++(cm (L.drop (y.2.2+1).toNat)).1)^ah b (rL m0 c0 (eV u v.2) s mq)^aP ts aD (fD upto xs v.1))
   (λ(y:Int×Int×Int)=>(-1≤y.2.2∧y.2.2<L.length)∧y.1=(cm (L.drop (y.2.2+1).toNat)).2.1∧y.2.1=(cm (L.drop (y.2.2+1).toNat)).2.2) (λ(y:Int×Int×Int)=>(y.2.2+1).toNat) h ⟨⟨by show(-1:Int)≤_-1;omega,by show _-1<_;omega⟩,by rw[e1],by rw[e1]⟩ ?_
  rintro(⟨be,above,i⟩:Int×Int×Int) w ⟨⟨h0,h1⟩,h2,h3⟩ h;dsimp only at h0 h1 h2 h3 h⊢;refine ae (λc=>?_) λc=>?_
  ·have c:0≤i:=bV;obtain⟨k,hk⟩:∃k:Nat,i=k:=⟨i.toNat,by omega⟩;have hk1:(i+1).toNat=k+1:=(by omega);have hk0:i.toNat=k:=(by omega);have hk2:(i-1+1).toNat=k:=(by omega);have hkl:k<L.length:=(by omega);rw[hk1]at h2 h3 h;obtain⟨p,hp⟩:∃p,L[k]?=some p:=⟨_,bT hkl⟩;have hd:=pP hp;have ht:L.take (k+1)=L.take k++[p]:=(by rw[lF,hp];rfl);have hlt:(L.take k).length=k:=(by rw[fM];omega);have hpass:cm (L.drop k)=(if vZ p above then gV p true::(cm (L.drop (k+1))).1 else p::(cm (L.drop (k+1))).1,if vZ p above then IntKind.u64.wrap (be+IntKind.u64.wrap (p.2.1-p.1))else be,xY p above):=by
    rw[hd,cm,h2,h3]
   obtain⟨ys,hys⟩:∃ys,ys=L.take (k+1)++(cm (L.drop (k+1))).1:=⟨_,rfl⟩;have hxk:ys[i.toNat]?=some p:=by
    rw[hk0,hys,oB (by rw[fM];omega),oC,aC (by omega),hp]
   have hxl:i.toNat<ys.length:=(gJ.1 hxk).1;rw[←hys]at h;have hw:IntKind.i64.wrap (i-1)=i-1:=wi (by omega) (by omega);rw[hw];have hgo:∀(w:World) (m n:Int) (zs:List Pc),zs=L.take k++(cm (L.drop k)).1→m=(cm (L.drop k)).2.1→n=(cm (L.drop k)).2.2→au w0 S R w (aP rs aD zs^ah b (rL m0 c0 (eV u v.2) s mq)^aP ts aD (fD upto xs v.1))→
     (((-1≤(m,n,i-1).2.2∧(m,n,i-1).2.2<L.length)∧(m,n,i-1).1=(cm (L.drop ((m,n,i-1).2.2+1).toNat)).2.1∧(m,n,i-1).2.1=(cm (L.drop ((m,n,i-1).2.2+1).toNat)).2.2)∧au w0 S R w (aP rs aD (L.take ((m,n,i-1).2.2+1).toNat++(cm (L.drop ((m,n,i-1).2.2+1).toNat)).1)^ah b (rL m0 c0 (eV u v.2) s mq)^aP ts aD (fD upto xs v.1)))∧((m,n,i-1).2.2+1).toNat<((be,above,i).2.2+1).toNat:=by
    intro w m n zs hz hm hn h;dsimp only;rw[hk2,←hz];exact⟨⟨⟨⟨by omega,by omega⟩,hm,hn⟩,h⟩,by omega⟩
   refine bR h c hxl (ac ?_);refine eU h rs i.toNat 7 p hxk rfl (by decide) rfl ?_;refine ae (λc2=>?_) λc2=>?_
   ·have c2:xI p=true:=c2;have hh:vZ p above=false:=(by simp[vZ,kW,c2]);have hab:xY p above=IntKind.i64.wrap (above+1):=(by rw[xY,aC c2]);rw[hh]at hpass;simp only[iW,iX]at hpass;exact hgo w _ _ ys (by rw[hpass,hys,ht];simp) (by rw[hpass]) (by rw[hpass];exact hab.symm) h
   ·have c2:xI p=false:=c2;have hab:xY p above=above:=(by rw[xY,ay (by rw[c2];simp)]);have hh:vZ p above=(!jr p&&decide (above≥3)):=(by rw[vZ,kW,c2,hab];rfl);refine ac ?_;refine eU h rs i.toNat 8 p hxk rfl (by decide) rfl ?_;refine ae (λc3=>?_) λc3=>?_
    ·have c3:(!jr p&&decide (above≥3))=true:=c3;rw[hh,c3]at hpass;simp only[gU]at hpass;refine ac (lT h rs i.toNat 8 p (gV p true) hxk rfl (by decide) (by simp) rfl λw h=>?_);have hset:ys.set i.toNat (gV p true)=L.take k++(cm (L.drop k)).1:=by
      rw[hpass,hys,hk0,ht,kR,F_ _ _ (by omega),hlt];simp
     have hx2:(ys.set i.toNat (gV p true))[i.toNat]?=some (gV p true):=(by rw[rJ hxl]);refine aH h λw h=>?_;refine ac (ac ?_);refine eU h rs i.toNat 1 _ hx2 rfl (by decide) rfl ?_;refine eU h rs i.toNat 0 _ hx2 rfl (by decide) rfl ?_;refine hgo w _ _ _ hset ?_ (by rw[hpass,hab]) h;rw[hpass];exact Hf be p.2.1 p.1
    ·have c3:(!jr p&&decide (above≥3))=false:=c3;rw[hh,c3]at hpass;simp only[iW,iX]at hpass;exact hgo w _ _ ys (by rw[hpass,hys,ht];simp) (by rw[hpass]) (by rw[hpass,hab]) h
  ·have c:i=-1:=(by simp at c;omega);rw[c]at h2 h3 h;simp only[show((-1:Int)+1).toNat=0 from rfl,wk,Cw,oE]at h2 h;refine ac (az h b (rL m0 c0 (eV u v.2) rs mq) rfl rfl rfl λw h=>?_);have h:=h.gI b m0 c0 u mq rs (cm L).1 v.2;show au _ _ _ _ (oo b m0 c0 u mq v upto xs _);rw[oo,hm,hL];exact au.aE ⟨h2,rfl⟩ h.aG
end NQ

namespace Io
open bB bi f_ eA fZ eH xk C6 dY fk dZ ki lj mj JU Qv NQ
theorem O5(m:Int):(if(if(9000:Int)<m then(9000:Int)else m)>(100:Int)then(if(9000:Int)<m then(9000:Int)else m)else(100:Int))=bc m:=by
 unfold bc;(repeat' split)<;>omega
theorem O4(m:Int):bc (bc m)=bc m:=by
 have h:=rf m;generalize bc m=c at*
 unfold bc;(repeat' split)<;>omega
theorem V7(aQ m:Int):vC aQ (bc m)=vC aQ m:=by unfold vC;rw[O4]
theorem Nq(aQ bn:Int)(hr:U aQ):bm (RY aQ bn) aT (λr=>bh (r=vC aQ bn) aT):=
 br λw0 S R h=>by
  rw[O5];have hm:=rf bn;have ht:=rY aQ bn hr.1;unfold U at hr;have em:IntKind.u64.wrap (bc bn)=bc bn:=wu (by omega) (by omega);rw[em];have hk:7≤65536/bc bn:=by rw[Cg (by omega)];omega
  have hk9:65536/bc bn≤65536:=ze _ (by decide);have eq1:IntKind.u64.wrap (aQ.tdiv 1024)=aQ/1024:=by rw[lP hr.1];exact wu (by omega) (by omega)
  have hq0:0≤aQ/1024/bc bn:=Cp (by omega) (by omega);have hq1:aQ/1024/bc bn≤aQ/1024:=ze _ (by omega);have eq2:IntKind.u64.wrap ((aQ/1024).tdiv (bc bn))=aQ/1024/bc bn:=by rw[lP (by omega)];exact wu (by omega) (by omega)
  have eq3:IntKind.u64.wrap (IntKind.i64.wrap ((65536:Int).tdiv (bc bn)))=65536/bc bn:=by rw[lP (by decide),wi (by omega) (by omega)];exact wu (by omega) (by omega)
  rw[eq1,eq2,eq3];obtain⟨y0,hy0⟩:∃y0,y0=aQ/1024/bc bn:=⟨_,rfl⟩;obtain⟨k,hkk⟩:∃k,k=65536/bc bn:=⟨_,rfl⟩;have et:vC aQ bn=(if(if y0<2 then 2 else y0)>k then k else(if y0<2 then 2 else y0))*bc bn:=by unfold vC;rw[←hy0,←hkk]
  rw[←hy0,←hkk];rw[←hkk]at hk hk9;have e2:(if(if k<y0 then k else y0)>2 then(if k<y0 then k else y0)else 2)=(if(if y0<2 then 2 else y0)>k then k else(if y0<2 then 2 else y0)):=by
   (repeat' split)<;>omega
  rw[e2];rw[et]at ht;obtain⟨z,hz⟩:∃z,z=(if(if y0<2 then 2 else y0)>k then k else(if y0<2 then 2 else y0)):=⟨_,rfl⟩;have hz2:2≤z∧z≤k:=by rw[hz];(repeat' split)<;>omega
  rw[←hz]at ht⊢;rw[wi (n:=z) (by omega) (by omega),wi (n:=z*bc bn) (by omega) (by omega)];exact⟨by omega,by omega,au.aE (by rw[et,←hz]) h⟩
abbrev JZ(m:Md)(u:Rm):Prop:=u.m=m∧Rel u∧u.g=fm m
theorem vv(b mb nw:Nat)(m0 c0:Int)(v:Sk)(sl:Sl)(u:Rm)(hu:u.m=v.md)(hr:U v.md.aQ)(hm:v.bn=bc m0):bm (Fi (some ⟨b,0⟩)) (ah b (rL m0 c0 v sl mb)^ah mb (ad.cN nw u)^ah nw (ad.dH u.m.w)) (λr=>bh (r=bp v) (ah b (rL m0 c0 v sl mb)^ah mb (ad.cN nw u)^ah nw (ad.dH u.m.w))):=
 br λw0 S R h=>by
  have hr':U u.m.aQ:=by rw[hu];exact hr
  refine aH h λw h=>ac (ac (aj (x:=some ⟨mb,0⟩) h rfl (aj (x:=m0) h rfl (ac (aj (x:=u.m.aQ) h rfl ?_)))));refine af (Nq u.m.aQ m0 hr') (h.le ((aF _).trans (aV _ _))) λr w h=>?_;obtain⟨hr1,h⟩:=h.aB;exact au.aE (by rw[hr1,hu];unfold bp;rw[hm,V7]) h.drop
theorem M3{b mb nw:Nat}{m0 c0:Int}{v:Sk}{u:Rm}{w0 w:World}{S0 R0:Nat→Prop}{G:SP}{K:WP}(hv:oM v)(hu:JZ v.md u)(hm:v.bn=bc m0){ao be:Int}(hn:U ao)(hlo:U be)
  (h:au w0 S0 R0 w (jf b m0 c0 v mb v.bd^(ah mb (ad.cN nw u)^ah nw (ad.dH u.m.w))^G))
  (k:∀w' u',JZ (jz v ao be).md u'→au w0 S0 R0 w' (jf b m0 c0 (jz v ao be) mb v.bd^(ah mb (ad.cN nw u')^ah nw (ad.dH u'.m.w))^G)→K w'):
  deref (some ⟨b,0⟩) (λq15=>deref (some ⟨b,0⟩) λq16=>deref (some ⟨b,0⟩) λq17=>ld [.ptr] ⟨q15.b,q15.o+20⟩ λ(x18:Option Pt)=>
   call Tryz.prog js [.lf (.ptr (some ⟨q17.b,q17.o+7⟩))] [.lf (.int .u64)] λ(r19:Int)=>
   co ⟨q15.b,q15.o+20⟩ (Ks.mk [.ptr] x18)<|
   call Tryz.prog nC [.lf (.ptr (some ⟨q16.b,q16.o+9⟩)),.lf (.int .u64 ao),.lf (.int .u64 be),.lf (.int .u64 r19)] [.agg aO] λ(r20:eI)=>
   co ⟨q15.b,q15.o+20⟩ (Ks.mk [.ptr] x18)<|
   call Tryz.prog lg [.lf (.ptr (some ⟨b,0⟩))] [.lf (.int .i64)] λ(r21:Int)=>
   co ⟨q15.b,q15.o+20⟩ (Ks.mk [.ptr] x18)<|
   call Tryz.prog nB [.lf (.ptr x18),.agg (Ks.mk aO r20),.lf (.int .u64 (IntKind.u64.wrap r21))] [.agg bC] λ_=>K) w:=by
 obtain⟨hu1,hu2,hu3⟩:=hu;have hbl:v.bd.1.length≤4294967296:=by have:=hv.bl;omega
 have hts:=rY v.md.aQ v.bn hv.md.aQ.1;have ew:IntKind.u64.wrap (bp v)=bp v:=wu (by unfold bp;omega) (by unfold bp;omega);have hft:U (cK v):=hv.fl;obtain⟨v1,hv1⟩:∃v1:Sk,v1={v with sp:=(fN v.sp ao be (cK v)).2}:=⟨_,rfl⟩;have et:bp v1=bp v:=by rw[hv1];rfl
 obtain⟨s,h⟩:=h.jf (m0:=m0) (c0:=c0) (u:=v) (mq:=mb) (v:=v.bd) b;refine ac (ac (ac (aj (x:=some ⟨mb,0⟩) h rfl ?_)));have h:au w0 S0 R0 w (jf b m0 c0 v mb v.bd^(ah mb (ad.cN nw u)^ah nw (ad.dH u.m.w))^G):=(h.gI b m0 c0 v mb s v.bd.1 v.bd.2).aG;refine af (nk b m0 c0 v mb v.bd hbl) h λr w h=>?_;obtain⟨hr,h⟩:=h.aB;rw[hr];obtain⟨s,h⟩:=h.jf (m0:=m0) (c0:=c0) (u:=v) (mq:=mb) (v:=v.bd) b;have h:au w0 S0 R0 w (ah b (rL m0 c0 v s mb)^aP s aD v.bd.1^(ah mb (ad.cN nw u)^ah nw (ad.dH u.m.w))^G):=h;refine aI h rfl (af (GU b m0 c0 v s mb ao be (cK v) hv.sp hn) h λr w h=>?_);obtain⟨hr,h⟩:=h.aB;rw[hr];have h:au w0 S0 R0 w (ah b (rL m0 c0 v1 s mb)^aP s aD v.bd.1^(ah mb (ad.cN nw u)^ah nw (ad.dH u.m.w))^G):=by rw[hv1];exact h
 refine aI h rfl (af (vv b mb nw m0 c0 v1 s u (by rw[hv1];exact hu1) (by rw[hv1];exact hv.md.aQ) (by rw[hv1];exact hm)) h λr w h=>?_);obtain⟨hr,h⟩:=h.aB;rw[hr,et,ew];refine aI h rfl (af (JA mb nw u (by rw[hu1];exact hv.md) hu2 (fN v.sp ao be (cK v)).1 (xO hv.sp hn hlo hv.fl) (bp v) ⟨by unfold bp;omega,by unfold bp;omega⟩) h λr w h=>?_);obtain⟨u',⟨g1,g2,g3,_⟩,h⟩:=h.t_;have h:au w0 S0 R0 w (ah b (rL m0 c0 {v with sp:=(fN v.sp ao be (cK v)).2} s mb)^aP s aD v.bd.1^(ah mb (ad.cN nw u')^ah nw (ad.dH u'.m.w))^G):=by rw[←hv1];exact h.aG
 have h:au w0 S0 R0 w (ah b (rL m0 c0 (eV (jz v ao be) v.bd.2) s mb)^aP s aD v.bd.1^(ah mb (ad.cN nw u')^ah nw (ad.dH u'.m.w))^G):=h;refine k w u' ⟨by rw[g1,hu1];rfl,g2,by rw[g3,g1,hu1];rfl⟩ (h.gI b m0 c0 (jz v ao be) mb s v.bd.1 v.bd.2).aG
def kK(b:Nat)(m0 c0:Int)(v:Sk):SP:=wZ (λx:Nat×Nat×Rm=>JZ v.md x.2.2) (λx=>(λmb nw u=>jf b m0 c0 v mb v.bd^(ah mb (ad.cN nw u)^ah nw (ad.dH u.m.w))) x.1 x.2.1 x.2.2)
instance(b:Nat)(m0 c0:Int)(v:Sk):qq (kK b m0 c0 v):=by unfold kK;infer_instance
section
variable {w0 w:World} {S0 R0:Nat→Prop} {F G:SP}
theorem _root_.Go.X.au.kK(h:au w0 S0 R0 w F)(b:Nat){m0 c0:Int}{v:Sk}[tk:Take (Io.kK b m0 c0 v) F G]:∃(mb nw:Nat) (u:Rm),JZ v.md u∧au w0 S0 R0 w (jf b m0 c0 v mb v.bd^(ah mb (ad.cN nw u)^ah nw (ad.dH u.m.w))^G):=by
 obtain⟨⟨mb,nw,u⟩,hu,h⟩:=(h.le tk.le).t_;exact⟨mb,nw,u,hu,h.aG⟩
theorem _root_.Go.X.au.tm(h:au w0 S0 R0 w F)(b:Nat)(m0 c0:Int)(v:Sk)(mb nw:Nat)(u:Rm)(hu:JZ v.md u)[tk:Take (jf b m0 c0 v mb v.bd^(ah mb (ad.cN nw u)^ah nw (ad.dH u.m.w))) F G]:au w0 S0 R0 w (Io.kK b m0 c0 v^G):=
 au.qH (f:=λx:Nat×Nat×Rm=>(λmb nw u=>jf b m0 c0 v mb v.bd^(ah mb (ad.cN nw u)^ah nw (ad.dH u.m.w))) x.1 x.2.1 x.2.2) h (mb,nw,u) hu
end
theorem Bm(b:Nat)(m0 c0:Int)(v:Sk)(hv:oM v)(hm:v.bn=bc m0)(ao:Int)(hn:U ao):bm (XY (some ⟨b,0⟩) ao) (kK b m0 c0 v) (λ_=>kK b m0 c0 (ie v ao)):=
 br λw0 S R h=>by
  have hbl:v.bd.1.length≤4294967295:=by have:=hv.bl;omega
  obtain⟨mb,nw,u,hu,h⟩:=(h.le (aF _)).kK b (m0:=m0) (c0:=c0) (v:=v);refine ac (af (Gy b m0 c0 v mb v.bd hbl) h λr w h=>?_);obtain⟨hr,h⟩:=h.aB;rw[hr];refine aH h λw h=>?_;refine M3 (v:={v with bd:=(v.bd.1.map eX,v.bd.2)}) (b:=b) (mb:=mb) (nw:=nw) (G:=aT) (oM.xr hv) hu hm hn hv.fl h λw u' hu' h=>?_;have h:au w0 S R w (jf b m0 c0 (ie v ao) mb (ie v ao).bd^(ah mb (ad.cN nw u')^ah nw (ad.dH u'.m.w))^aT):=h;exact(h.tm b m0 c0 (ie v ao) mb nw u' hu').bk
end Io

namespace W4
open bB bi f_ eA fZ eH xk C6 dY fk dZ ki lj mj ml JU Qv Re NQ Io
abbrev KR:Ks:=[.int .u64,.int .u64]
theorem It{ao:Int}{s:Sp}{l:List Pc}{i:Nat}{q:Pc}(h:l[i]?=some q):qG ao s (l.take (i+1))=rV ao (qG ao s (l.take i)) q:=by
 unfold qG;rw[lF,h,List.foldl_append]
 rfl
theorem Eu(b:Nat)(m0 c0:Int)(v:Sk)(hv:oM v)(hp:Bz v.bd.1)(hm:v.bn=bc m0)(ao upto:Int)(hn:U ao)(a:Sl)(xs:List (Ks.T KR))(hx:xs.length≤4294967296):bm (XX (some ⟨b,0⟩) ao upto a) (kK b m0 c0 v^ba a KR xs) (λr=>bh (r=(nH v ao upto xs).1) (kK b m0 c0 (nH v ao upto xs).2)):=
 br λw0 S R h=>by
  have hbl:v.bd.1.length≤4294967295:=by have:=hv.bl;omega
  obtain⟨mb,nw,u,hu,h⟩:=h.kK b (m0:=m0) (c0:=c0) (v:=v);have t:=Jp b m0 c0 v mb v.bd upto a xs hbl hx;cases hc:tZ v.bd upto xs with
  |false=>
   have e:nH v ao upto xs=(11,v):=(by unfold nH;rw[ay (by rw[hc];intro c;cases c)]);rw[e];have t:bm (Kr (some ⟨b,7⟩) upto a) (jf b m0 c0 v mb v.bd^ba a KR xs) (λr=>bh (r.1=⟨none,0,0⟩∧r.2.1=0∧r.2.2=11) (aP r.1 aD []^jf b m0 c0 v mb v.bd)):=by
    unfold oo at t;rw[hc]at t;exact t
   refine ac (bI (Q:=ba a KR xs) t h λr w h=>?_);obtain⟨r1,r2,r3⟩:=r;obtain⟨⟨_,_,h3⟩,h⟩:=h.aB;dsimp only at h3 h⊢;refine ae (λ_=>?_) λc=>(by rw[h3]at c;cases c);rw[h3];have h:au w0 S R w (jf b m0 c0 v mb v.bd^(ah mb (ad.cN nw u)^ah nw (ad.dH u.m.w))^aT):=h.aG;exact au.aE rfl (h.tm b m0 c0 v mb nw u hu).bk
  |true=>
   have e:nH v ao upto xs=(0,jz (kz v ao upto xs) ao (cm (eD upto xs v.bd.1)).2.1):=(by unfold nH;rw[aC hc]);rw[e];have t:bm (Kr (some ⟨b,7⟩) upto a) (jf b m0 c0 v mb v.bd^ba a KR xs) (λr=>bh (r.2.1=(cm (eD upto xs v.bd.1)).2.1∧r.2.2=0) (aP r.1 aD (fD upto xs v.bd.1)^jf b m0 c0 v mb ((cm (eD upto xs v.bd.1)).1,v.bd.2))):=by
    unfold oo at t;rw[hc]at t;exact t
   refine ac (bI (Q:=ba a KR xs) t h λr w h=>?_);obtain⟨r1,r2,r3⟩:=r;obtain⟨⟨h2,h3⟩,h⟩:=h.aB;dsimp only at h2 h3 h⊢;refine ae (λc=>(by rw[h3]at c;cases c)) λ_=>?_;obtain⟨L,hL⟩:∃L,L=fD upto xs v.bd.1:=⟨_,rfl⟩;obtain⟨P,hP⟩:∃P,P=(cm (eD upto xs v.bd.1)).1:=⟨_,rfl⟩;rw[←hL,←hP]at h;have hLen:L.length≤4294967295:=by
    rw[hL];exact lQ (y_ _ _) hbl
   have h:au w0 S R w (jf b m0 c0 v mb (P,v.bd.2)^aP r1 aD L^(ah mb (ad.cN nw u)^ah nw (ad.dH u.m.w))^aT):=h.aG;obtain⟨s,h⟩:=h.jf (m0:=m0) (c0:=c0) (u:=v) (mq:=mb) (v:=(P,v.bd.2)) b;have h:au w0 S R w (ah b (rL m0 c0 v s mb)^aP s aD P^aP r1 aD L^(ah mb (ad.cN nw u)^ah nw (ad.dH u.m.w))^aT):=h;refine ac (af (GA b m0 c0 v s mb upto) h λr w h=>?_);obtain⟨_,h⟩:=h.aB;have hr1:=(au.rd (s:=r1) (K:=aD) (xs:=L) h).2;have hLs:Bz L:=(by rw[hL];exact qh hp);have h:au w0 S R w (ah b (rL m0 c0 {v with bf:=(sV v.bf upto).2,sp:=qG ao v.sp (L.take (0:Int).toNat)} s mb)^aP s aD P^aP r1 aD L^(ah mb (ad.cN nw u)^ah nw (ad.dH u.m.w))^aT):=h;refine cS (λi:Int=>ah b (rL m0 c0 {v with bf:=(sV v.bf upto).2,sp:=qG ao v.sp (L.take i.toNat)} s mb)^aP s aD P^aP r1 aD L^(ah mb (ad.cN nw u)^ah nw (ad.dH u.m.w))^aT) (λi:Int=>0≤i∧i≤L.length) (λi:Int=>L.length-i.toNat) h ⟨ku 0,by omega⟩ ?_;rintro(i:Int) w ⟨i0,i1⟩ h;refine ae (λc=>?_) λc=>?_
   ·have c:i<((r1.len:Nat):Int):=bJ c;have hi:i.toNat<L.length:=(by omega);obtain⟨q,hq⟩:∃q,L[i.toNat]?=some q:=⟨_,bT hi⟩;have hqm:=kQ hq;have hsp:oY (qG ao v.sp (L.take i.toNat)):=BE hn _ _ hv.sp λz hz=>hLs z (List.mem_of_mem_take hz);have ei:(i+1).toNat=i.toNat+1:=(by omega);refine aH h λw h=>ac ?_;have hA:=h.take (aP r1 aD L);refine bR (s:=r1) hA i0 hi (bR (s:=r1) hA i0 hi (bR (s:=r1) hA i0 hi ?_));refine eU hA r1 i.toNat 1 q hq rfl (by decide) (x:=q.2.1) rfl (eU hA r1 i.toNat 0 q hq rfl (by decide) (x:=q.1) rfl (eU hA r1 i.toNat 2 q hq rfl (by decide) (x:=QW q) rfl ?_));refine af (EA b m0 c0 {v with bf:=(sV v.bf upto).2,sp:=qG ao v.sp (L.take i.toNat)} s mb ao (IntKind.u64.wrap (q.2.1-q.1)) (QW q) hsp hn (tI _) (hLs q hqm)) h λ_ w h=>?_;rw[wi (n:=i+1) (by omega) (by omega)];refine⟨⟨⟨by show(0:Int)≤i+1;omega,by show i+1≤_;omega⟩,?_⟩,by show L.length-(i+1).toNat<_;omega⟩;show au w0 S R w (ah b (rL m0 c0 {v with bf:=(sV v.bf upto).2,sp:=qG ao v.sp (L.take (i+1).toNat)} s mb)^_);rw[ei,It hq];exact h
   ·have c:¬i<((r1.len:Nat):Int):=bQ c;have ei:L.take i.toNat=L:=kp (by omega);rw[ei]at h;have eT:kz v ao upto xs={v with bd:=(P,v.bd.2),bf:=(sV v.bf upto).2,sp:=qG ao v.sp L}:=(by unfold kz;rw[hL,hP]);have hm2:(kz v ao upto xs).bn=bc m0:=hm;have hu2:JZ (kz v ao upto xs).md u:=hu;have h:au w0 S R w (jf b m0 c0 (kz v ao upto xs) mb (kz v ao upto xs).bd^(ah mb (ad.cN nw u)^ah nw (ad.dH u.m.w))^aP r1 aD L):=by
     rw[eT];have h:au w0 S R w (ah b (rL m0 c0 (eV {v with bd:=(P,v.bd.2),bf:=(sV v.bf upto).2,sp:=qG ao v.sp L} v.bd.2) s mb)^aP s aD P^aP r1 aD L^(ah mb (ad.cN nw u)^ah nw (ad.dH u.m.w))^aT):=h;exact(h.gI b m0 c0 {v with bd:=(P,v.bd.2),bf:=(sV v.bf upto).2,sp:=qG ao v.sp L} mb s P v.bd.2).aG
    rw[h2];refine aH h λw h=>?_;refine M3 (v:=kz v ao upto xs) (b:=b) (mb:=mb) (nw:=nw) (G:=aP r1 aD L) (z0 hv hp hn upto xs) hu2 hm2 hn (yT _) h λw u' hu' h=>?_;have h:au w0 S R w (jf b m0 c0 (jz (kz v ao upto xs) ao (cm (eD upto xs v.bd.1)).2.1) mb (jz (kz v ao upto xs) ao (cm (eD upto xs v.bd.1)).2.1).bd^(ah mb (ad.cN nw u')^ah nw (ad.dH u'.m.w))^aP r1 aD L):=h;exact au.aE rfl (h.tm b m0 c0 (jz (kz v ao upto xs) ao (cm (eD upto xs v.bd.1)).2.1) mb nw u' hu').bk
end W4

namespace U5
open bB bi f_ eA fZ eH xk C6 dY fk dZ ki mi lj mj ml JU UF Qv Re NQ Io
abbrev KR:Ks:=[.int .u64,.int .u64]
def M2(b n1 n4:Nat)(o:Int)(ag:Bool)(R:Rs.T [.agg KS,.lf (.int .i64)]→WP):WP:=
 ld [.int .u64] ⟨n4,1⟩ λ(x56:Int)=>
 ld [.int .u64] ⟨n4,0⟩ λ(x57:Int)=>
 bF<|
 deref (some ⟨b,0⟩) λq58=>
 ld [.int .u64] ⟨n4,0⟩ λ(x59:Int)=>
 deref (some ⟨b,0⟩) λq60=>
 ld [.int .i64] q58 λ(x61:Int)=>
 ld [.int .u64] ⟨q60.b,q60.o+22⟩ λ(x62:Int)=>
 new [.int .i64 (0:Int),.int .u64 (0:Int),.int .i64 (0:Int),.int .u64 (0:Int),.bool false] λn63=>
 co ⟨q60.b,q60.o+22⟩ (Ks.mk [.int .u64] x62)<|
 co q58 (Ks.mk [.int .i64] x61)<|
 co ⟨n4,0⟩ (Ks.mk [.int .u64] x59)<|
 st ⟨n63,0⟩ [.int .i64 x61,.int .u64 x59,.int .i64 (IntKind.i64.wrap (IntKind.u64.wrap (x56-x57))),.int .u64 (if x62>o then x62 else o),.bool ag]<|
 bF<|
 ld [.int .u64] ⟨n63,3⟩ λ(x64:Int)=>
 deref (some ⟨b,0⟩) λq65=>
 ld [.ptr] ⟨q65.b,q65.o+20⟩ λ(x66:Option Pt)=>
 deref x66 λq67=>
 ld [.int .u64] ⟨q67.b,q67.o+24⟩ λ(x68:Int)=>
 call Tryz.prog sT [.lf (.int .i64 (IntKind.i64.wrap (IntKind.u64.wrap (x56-x57)))),.lf (.int .u64 x68)] [.lf (.int .u64)] λ(r69:Int)=>
 co ⟨n63,3⟩ (Ks.mk [.int .u64] x64)<|
 call Tryz.prog oh [.lf (.int .u64 x64),.lf (.int .u64 r69)] [.lf (.int .u64)] λ(r70:Int)=>
 deref (some ⟨b,0⟩) λq71=>
 st ⟨q71.b,q71.o+22⟩ [.int .u64 r70]<|
 deref (some ⟨b,0⟩) λq72=>
 ld [.int .u64] ⟨q72.b,q72.o+21⟩ λ(x73:Int)=>
 call Tryz.prog oh [.lf (.int .u64 x73),.lf (.int .u64 (IntKind.u64.wrap (IntKind.i64.wrap (IntKind.u64.wrap (x56-x57)))))] [.lf (.int .u64)] λ(r74:Int)=>
 deref (some ⟨b,0⟩) λq75=>
 st ⟨q75.b,q75.o+21⟩ [.int .u64 r74]<|
 ld KS ⟨n63,0⟩ λ(x76:Ks.T KS)=>
 st ⟨n1,0⟩ (Ks.mk KS x76)<|
 ld KS ⟨n1,0⟩ λ(x77:Ks.T KS)=>
 R (x77,(0:Int))
theorem Uv{w0 w:World}{S0 R0:Nat→Prop}{G:SP}{R:Rs.T [.agg KS,.lf (.int .i64)]→WP}{b n1 n4 mb nw:Nat}{m0 c0:Int}{v:Sk}{u:Rm}{ao x y:Int}{ag:Bool}(hu:u.m=v.md)(hm:fP v.md)(hn:U ao)(hnx:U v.nx)(hab:0≤y-x∧y-x≤65536)(ho:0≤v.out∧v.out+65536<18446744073709551616)
  (h:au w0 S0 R0 w (ah n1 zS^ah n4 [.int .u64 x,.int .u64 y]^jf b m0 c0 v mb v.bd^(ah mb (ad.cN nw u)^ah nw (ad.dH u.m.w))^G))
  (k:∀w',au w0 S0 R0 w' (jf b m0 c0 (kH v (x,y) ag ao).2 mb v.bd^(ah mb (ad.cN nw u)^ah nw (ad.dH u.m.w))^G)→R ((kH v (x,y) ag ao).1,0) w'):M2 b n1 n4 ao ag R w:=by
 unfold M2;have e1:IntKind.u64.wrap (y-x)=y-x:=wu (by omega) (by omega);have e2:IntKind.i64.wrap (y-x)=y-x:=wi (by omega) (by omega);have hst:U (if v.nx>ao then v.nx else ao):=by split;exact hnx;exact hn
 have hD:U (dJ (y-x) v.md.aQ):=om (by omega) hm.aQ;obtain⟨s,h⟩:=h.jf (m0:=m0) (c0:=c0) (u:=v) (mq:=mb) (v:=v.bd) b;have h:au w0 S0 R0 w (ah b (rL m0 c0 v s mb)^aP s aD v.bd.1^ah n1 zS^ah n4 [.int .u64 x,.int .u64 y]^(ah mb (ad.cN nw u)^ah nw (ad.dH u.m.w))^G):=h;refine aj (x:=y) h rfl (aj (x:=x) h rfl (aH h λw h=>ac (aj (x:=x) h rfl (ac (aj (x:=v.id) h rfl (aj (x:=v.nx) h rfl (aA h λn63 w h=>?_)))))));refine aI h rfl (aI h rfl (aI h rfl ?_));rw[e1,e2];refine aw h (by rfl) λw h=>aH h λw h=>aj (x:=if v.nx>ao then v.nx else ao) h rfl (ac (aj (x:=some ⟨mb,0⟩) h rfl (ac (aj (x:=u.m.aQ) h rfl ?_))));rw[hu];refine af (ud (y-x) v.md.aQ (by omega) hm.aQ) (h.le ((aF _).trans (aV _ _))) λr w h=>?_;obtain⟨hr,h⟩:=h.aB;rw[hr];have h:=h.drop;refine aI h rfl (af (fz _ _ hst hD) (h.le ((aF _).trans (aV _ _))) λr w h=>?_);obtain⟨hr,h⟩:=h.aB;rw[hr];have h:=h.drop;refine ac (az h b (rL m0 c0 {v with nx:=bA (if v.nx>ao then v.nx else ao) (dJ (y-x) v.md.aQ)} s mb) rfl rfl rfl λw h=>?_);refine ac (aj (x:=v.out) h rfl ?_);rw[e1];refine af (fz v.out (y-x) ⟨ho.1,by omega⟩ ⟨hab.1,by omega⟩) (h.le ((aF _).trans (aV _ _))) λr w h=>?_;obtain⟨hr,h⟩:=h.aB;have e3:bA v.out (y-x)=v.out+(y-x):=by unfold bA;rw[aC (by omega)]
 rw[hr,e3];have h:=h.drop;refine ac (az h b (rL m0 c0 {v with nx:=bA (if v.nx>ao then v.nx else ao) (dJ (y-x) v.md.aQ),out:=v.out+(y-x)} s mb) rfl rfl rfl λw h=>?_);refine ar (b:=n63) (x:=(kH v (x,y) ag ao).1) h rfl (aw h (by rfl) λw h=>ar (b:=n1) (x:=(kH v (x,y) ag ao).1) h rfl ?_);have h:au w0 S0 R0 w (ah b (rL m0 c0 (eV (kH v (x,y) ag ao).2 v.bd.2) s mb)^aP s aD v.bd.1^(ah mb (ad.cN nw u)^ah nw (ad.dH u.m.w))^G):=by
  have h:au w0 S0 R0 w (ah b (rL m0 c0 {v with nx:=bA (if v.nx>ao then v.nx else ao) (dJ (y-x) v.md.aQ),out:=v.out+(y-x)} s mb)^aP s aD v.bd.1^(ah mb (ad.cN nw u)^ah nw (ad.dH u.m.w))^G):=h.aG;exact h
 exact k w (h.gI b m0 c0 (kH v (x,y) ag ao).2 mb s v.bd.1 v.bd.2).aG
end U5

namespace Wm
open bB bi f_ eA fZ eH xk C6 dY fk dZ ki mi nD nF lj mj ml JU UF Qv Re NQ Io U5
abbrev KR:Ks:=[.int .u64,.int .u64]
theorem Jt(b:Nat)(m0:Int)(v:Sk)(hv:oM v)(hL:qF v.bd.1)(hm:v.bn=bc m0)(ao:Int)(hn:U ao):bm (Oq (some ⟨b,0⟩) ao) (kK b m0 v.cap v) (λr=>bh (r=(bY v ao).1) (kK b m0 v.cap (bY v ao).2)):=
 br λw0 S R h=>by
  have hbl:v.bd.1.length≤4294967296:=by have:=hv.bl;omega
  have hts:=rY v.md.aQ v.bn hv.md.aQ.1;have b1:=hv.bf.u;have b2:=hv.bf.un;have b3:=hv.bf.nw;have b4:=hv.bf.w;obtain⟨c0,hc0⟩:∃c0,c0=v.cap:=⟨_,rfl⟩;rw[←hc0]at h⊢;obtain⟨mb,nw,u,hu,h⟩:=(h.le (aF _)).kK b (m0:=m0) (c0:=c0) (v:=v);obtain⟨hu1,hu2,hu3⟩:=hu;have bad:∀{w:World} {n1:Nat} (e:Int),e≠0→(dI v).1=e→∀{G:SP},au w0 S R w (ah n1 zS^jf b m0 c0 (dI v).2 mb v.bd^(ah mb (ad.cN nw u)^ah nw (ad.dH u.m.w))^G)→
    st ⟨n1,0⟩ zS (ld KS ⟨n1,0⟩ λ(x:Ks.T KS)=>(λ(r:Ks.T KS×Int) w=>au w0 S R w (bh (r=(bY v ao).1) (kK b m0 c0 (bY v ao).2))) (x,e)) w:=by
   intro w n1 e he hme G h;have ee:bY v ao=((PH,(dI v).1),(dI v).2):=by unfold bY;rw[aC (by rw[hme];exact he)]
   have em:(dI v).2.md=v.md∧(dI v).2.bd=v.bd:=by
    unfold dI;(repeat' split)<;>exact⟨rfl,rfl⟩
   refine aw h (by rfl) λw h=>ar (b:=n1) (x:=PH) h rfl ?_;rw[ee,hme];have h:au w0 S R w (jf b m0 c0 (dI v).2 mb (dI v).2.bd^(ah mb (ad.cN nw u)^ah nw (ad.dH u.m.w))^aT):=by rw[em.2];exact h.aG
   exact au.aE rfl (h.tm b m0 c0 (dI v).2 mb nw u ⟨by rw[em.1];exact hu1,hu2,by rw[em.1];exact hu3⟩).bk
  refine aA h λn1 w h=>ac (af (Gx b m0 c0 v mb v.bd hbl) h λr w h=>?_);obtain⟨hr,h⟩:=h.aB;rw[hr];refine aA h λn4 w h=>aw h (by rfl) λw h=>ac (af (nk b m0 c0 v mb v.bd hbl) h λr w h=>?_);obtain⟨hr,h⟩:=h.aB;rw[hr];obtain⟨s,h⟩:=h.jf (m0:=m0) (c0:=c0) (u:=v) (mq:=mb) (v:=v.bd) b;have h:au w0 S R w (ah b (rL m0 c0 v s mb)^aP s aD v.bd.1^ah n1 zS^ah n4 (Ks.mk KR (bx v.bd.1).1)^(ah mb (ad.cN nw u)^ah nw (ad.dH u.m.w))^aT):=h.aG;have hsl:=((h.take (aP s aD v.bd.1)).rd (s:=s)).2;refine aK h (λ_=>ah b (rL m0 c0 v s mb)^aP s aD v.bd.1^ah n1 zS^ah n4 (Ks.mk KR (bx v.bd.1).1)^(ah mb (ad.cN nw u)^ah nw (ad.dH u.m.w))^aT) (λy:Bool=>y=decide ((bx v.bd.1).2=false∧bW v.bf-bN v.bf=0)) (λ(y:Bool) w hy h=>?_) ?_;rotate_left
  ·refine aH h λw h=>ae (λc=>?_) λc=>?_
   ·have c:(bx v.bd.1).2=false:=bV;refine ac (ac (aj (x:=bN v.bf) h rfl (aj (x:=bW v.bf) h rfl ⟨?_,h⟩)));show(bN v.bf==bW v.bf)=_;by_cases e:bN v.bf=bW v.bf
    ·rw[kV (show _∧_ from⟨c,by omega⟩),e];simp
    ·rw[mZ (λhh:_∧_=>e (by have:=hh.2;omega))];simpa using e
   ·have c:(bx v.bd.1).2=true:=bV;exact⟨by rw[mZ (λhh:_∧_=>by rw[c]at hh;cases hh.1)],h⟩
  rw[hy];refine ae (λc=>?_) λc=>?_
  ·have c:=bJ c;refine ac (aj (x:=some ⟨mb,0⟩) h rfl (ac (aj (x:=u.m.cv) h rfl (ae (λc2=>?_) λc2=>?_))))
   ·have c2:cK v<v.md.cv:=(by have:=bJ c2;rw[hu1]at this;exact this);have em:dI v=(7,{v with sp:=nM v.sp (cK v)}):=(by unfold dI;rw[aC c,aC c2]);refine ac (af (EB b m0 c0 v s mb (cK v) hv.sp hv.fl) h λ_ w h=>?_);have h:au w0 S R w (ah b (rL m0 c0 (eV {v with sp:=nM v.sp (cK v)} v.bd.2) s mb)^aP s aD v.bd.1^ah n1 zS^ah n4 (Ks.mk KR (bx v.bd.1).1)^(ah mb (ad.cN nw u)^ah nw (ad.dH u.m.w))^aT):=h.aG;have h:=h.gI b m0 c0 {v with sp:=nM v.sp (cK v)} mb s v.bd.1 v.bd.2;have h:au w0 S R w (ah n1 zS^jf b m0 c0 (dI v).2 mb v.bd^(ah mb (ad.cN nw u)^ah nw (ad.dH u.m.w))^ah n4 (Ks.mk KR (bx v.bd.1).1)):=(by rw[em];exact h.aG);exact bad 7 (by decide) (by rw[em]) h
   ·have c2:¬cK v<v.md.cv:=(by have:=bQ c2;rw[hu1]at this;exact this);have em:dI v=(7,v):=(by unfold dI;rw[aC c,ay c2]);have h:au w0 S R w (ah b (rL m0 c0 (eV v v.bd.2) s mb)^aP s aD v.bd.1^ah n1 zS^ah n4 (Ks.mk KR (bx v.bd.1).1)^(ah mb (ad.cN nw u)^ah nw (ad.dH u.m.w))^aT):=h;have h:=h.gI b m0 c0 v mb s v.bd.1 v.bd.2;have h:au w0 S R w (ah n1 zS^jf b m0 c0 (dI v).2 mb v.bd^(ah mb (ad.cN nw u)^ah nw (ad.dH u.m.w))^ah n4 (Ks.mk KR (bx v.bd.1).1)):=(by rw[em];exact h.aG);exact bad 7 (by decide) (by rw[em]) h
  ·have c:=bQ c;refine aK h (λ_=>ah b (rL m0 c0 v s mb)^aP s aD v.bd.1^ah n1 zS^ah n4 (Ks.mk KR (bx v.bd.1).1)^(ah mb (ad.cN nw u)^ah nw (ad.dH u.m.w))^aT) (λy:Bool=>y=decide (¬(cK v<v.md.cv∧v.out<gP v.md.aQ (bp v) v.cap)∨((bx v.bd.1).2=false∧(v.bd.1.length:Int)≥4096))) (λ(y:Bool) w hy h=>?_) ?_;rotate_left
   ·refine aH h λw h=>ac (aj (x:=some ⟨mb,0⟩) h rfl (ac (aj (x:=u.m.cv) h rfl (ae (λc2=>?_) λc2=>?_))))
    ·have c2:cK v≥v.md.cv:=(by have:=bJ c2;rw[hu1]at this;exact this);exact⟨(kV (.inl (λhh=>by have:=hh.1;omega))).symm,h⟩
    ·have c2:¬cK v≥v.md.cv:=(by have:=bQ c2;rw[hu1]at this;exact this);refine ac (ac (ac (aj (x:=v.out) h rfl (aj (x:=some ⟨mb,0⟩) h rfl (aj (x:=c0) h rfl (ac (aj (x:=v.md.aQ) h (by rw[←hu1];rfl) ?_)))))));refine af (vv b mb nw m0 c0 v s u hu1 hv.md.aQ hm) h λr w h=>?_;obtain⟨hr,h⟩:=h.aB;rw[hr];refine aI h (by rw[←hu1];rfl) (aI h rfl (aI h rfl (aI h rfl ?_)));refine af (lL.GJ v.md.aQ (bp v) c0 hv.md.aQ ⟨by unfold bp;omega,by unfold bp;omega⟩ (by rw[hc0];exact hv.cap)) (h.le ((aF _).trans (aV _ _))) λr w h=>?_;obtain⟨hr,h⟩:=h.aB;have h:=h.drop;rw[hr,hc0];refine aI h rfl (ae (λc3=>?_) λc3=>?_)
     ·have c3:v.out≥gP v.md.aQ (bp v) v.cap:=bJ c3;rw[←hc0];exact⟨(kV (.inl (λhh=>by have:=hh.2;rw[←hc0]at*;omega))).symm,h.aG⟩
     ·have c3:¬v.out≥gP v.md.aQ (bp v) v.cap:=bQ c3;have hgo:cK v<v.md.cv∧v.out<gP v.md.aQ (bp v) v.cap:=⟨by omega,by omega⟩;rw[←hc0];refine ae (λc4=>?_) λc4=>?_
      ·have c4:(bx v.bd.1).2=false:=(by simpa using c4);refine ac (aj (x:=s) h rfl ⟨?_,h.aG⟩);rw[hsl];by_cases e:(v.bd.1.length:Int)≥4096
       ·rw[kV e,kV (.inr ⟨c4,e⟩)]
       ·rw[mZ e,mZ];rintro(hh|hh)
        ·exact hh (by rw[hc0];exact hgo)
        ·exact e hh.2
      ·have c4:(bx v.bd.1).2=true:=(by simpa using c4);refine⟨?_,h.aG⟩;rw[mZ];rintro(hh|hh)
       ·exact hh (by rw[hc0];exact hgo)
       ·rw[c4]at hh;cases hh.1
   rw[hy];refine ae (λc2=>?_) λc2=>?_
   ·have c2:=bJ c2;have em:dI v=(5,v):=by
     unfold dI;rw[ay c];by_cases e:¬(cK v<v.md.cv∧v.out<gP v.md.aQ (bp v) v.cap)
     ·rw[aC e]
     ·rw[ay e];rcases c2 with c2|c2
      ·exact absurd c2 e
      ·rw[aC c2]
    have h:au w0 S R w (ah b (rL m0 c0 (eV v v.bd.2) s mb)^aP s aD v.bd.1^ah n1 zS^ah n4 (Ks.mk KR (bx v.bd.1).1)^(ah mb (ad.cN nw u)^ah nw (ad.dH u.m.w))^aT):=h;have h:=h.gI b m0 c0 v mb s v.bd.1 v.bd.2;have h:au w0 S R w (ah n1 zS^jf b m0 c0 (dI v).2 mb v.bd^(ah mb (ad.cN nw u)^ah nw (ad.dH u.m.w))^ah n4 (Ks.mk KR (bx v.bd.1).1)):=(by rw[em];exact h.aG);exact bad 5 (by decide) (by rw[em]) h
   ·have c2:=bQ c2;have c3:cK v<v.md.cv∧v.out<gP v.md.aQ (bp v) v.cap:=Cn.1 λhh=>c2 (.inl hh);have em:(dI v).1=0:=by
     unfold dI;rw[ay c,ay (λhh=>hh c3),ay (λhh=>c2 (.inr hh))]
    have ee:bY v ao=(((uo v ao).1,0),(uo v ao).2):=(by unfold bY;rw[ay (by rw[em];exact λe=>e rfl)]);have hout:v.out<18014398509481984:=(B6 hv.md.aQ em).1;rw[ee];have ho2:0≤v.out∧v.out+65536<18446744073709551616:=⟨hv.out.1,by omega⟩;obtain⟨sn,hsn⟩:∃sn,sn=(jm v.sp ao (cK v)).1:=⟨_,rfl⟩;refine ac (af (GS b m0 c0 v s mb ao (cK v)) h λr w h=>?_);obtain⟨hr,h⟩:=h.aB;rw[hr,←hsn];have h:au w0 S R w (ah b (rL m0 c0 (eV (eg v ao) v.bd.2) s mb)^aP s aD v.bd.1^ah n1 zS^ah n4 (Ks.mk KR (bx v.bd.1).1)^(ah mb (ad.cN nw u)^ah nw (ad.dH u.m.w))^aT):=h.aG;have h:=h.gI b m0 c0 (eg v ao) mb s v.bd.1 v.bd.2;refine aA h λn42 w h=>aw h (by rfl) λw h=>?_;have aG:∀(V:Sk) (rg:Int×Int) (ag:Bool),uo v ao=kH V rg ag ao→V.md=v.md→V.nx=v.nx→V.out=v.out→(0≤rg.2-rg.1∧rg.2-rg.1≤65536)→∀{w:World},au w0 S R w (ah n1 zS^ah n4 [.int .u64 rg.1,.int .u64 rg.2]^jf b m0 c0 V mb V.bd^(ah mb (ad.cN nw u)^ah nw (ad.dH u.m.w))^aT)→M2 b n1 n4 ao ag (λ(r:Ks.T KS×Int) w=>au w0 S R w (bh (r=((uo v ao).1,0)) (kK b m0 c0 (uo v ao).2))) w:=by
     intro V rg ag hg e1 e2 e3 hrg w h;rw[hg];refine Uv (G:=aT) (mb:=mb) (nw:=nw) (m0:=m0) (c0:=c0) (v:=V) (u:=u) (x:=rg.1) (y:=rg.2) (by rw[e1];exact hu1) (by rw[e1];exact hv.md) hn (by rw[e2];exact hv.nx) hrg (by rw[e3];exact ho2) h λw h=>?_;have h:au w0 S R w (jf b m0 c0 (kH V rg ag ao).2 mb (kH V rg ag ao).2.bd^(ah mb (ad.cN nw u)^ah nw (ad.dH u.m.w))^aT):=h;exact au.aE rfl (h.tm b m0 c0 (kH V rg ag ao).2 mb nw u ⟨by rw[show(kH V rg ag ao).2.md=V.md from rfl,e1];exact hu1,hu2,by rw[show(kH V rg ag ao).2.md=V.md from rfl,e1];exact hu3⟩).bk
    cases hl:(bx v.bd.1).2 with
    |true=>
     have hg:uo v ao=kH {eg v ao with bd:=(dw v.bd.1 sn,v.bd.2)} (bx v.bd.1).1 true ao:=(by unfold uo;rw[aC hl,hsn]);refine aK h (λ_=>ah n1 zS^ah n4 [.int .u64 (bx v.bd.1).1.1,.int .u64 (bx v.bd.1).1.2]^jf b m0 c0 {eg v ao with bd:=(dw v.bd.1 sn,v.bd.2)} mb (dw v.bd.1 sn,v.bd.2)^(ah mb (ad.cN nw u)^ah nw (ad.dH u.m.w))^aT) (λ_=>True) (λ_ w _ h=>?_) ?_
     ·exact aG {eg v ao with bd:=(dw v.bd.1 sn,v.bd.2)} (bx v.bd.1).1 true hg rfl rfl rfl (hL hl) h
     ·refine ae (λ_=>?_) λc=>by cases c
      refine aH h λw h=>ar (b:=n42) (x:=sn) h rfl (ac (af (Et b m0 c0 (eg v ao) mb sn v.bd hbl) h λr w h=>?_));obtain⟨_,h⟩:=h.aB;obtain⟨s,h⟩:=h.jf (m0:=m0) (c0:=c0) (u:=eg v ao) (mq:=mb) (v:=(dw v.bd.1 sn,v.bd.2)) b;have h:au w0 S R w (ah b (rL m0 c0 (eV (eg v ao) v.bd.2) s mb)^aP s aD (dw v.bd.1 sn)^ah n1 zS^ah n4 (Ks.mk KR (bx v.bd.1).1)^(ah mb (ad.cN nw u)^ah nw (ad.dH u.m.w))^aT):=h.aG;have h:au w0 S R w (ah b (rL m0 c0 (eV {eg v ao with bd:=(dw v.bd.1 sn,v.bd.2)} v.bd.2) s mb)^aP s aD (dw v.bd.1 sn)^ah n1 zS^ah n4 [.int .u64 (bx v.bd.1).1.1,.int .u64 (bx v.bd.1).1.2]^(ah mb (ad.cN nw u)^ah nw (ad.dH u.m.w))^aT):=h;exact⟨trivial,(h.gI b m0 c0 {eg v ao with bd:=(dw v.bd.1 sn,v.bd.2)} mb s (dw v.bd.1 sn) v.bd.2).aG⟩
    |false=>
     obtain⟨T,hT⟩:∃T,T=kM v.bf (bp v):=⟨_,rfl⟩;have hg:uo v ao=kH {eg v ao with bf:=T.2,bd:=(dP v.bd T.1.1.1 T.1.1.2 sn).2} T.1.1 false ao:=by unfold uo;rw[ay (by rw[hl];intro c;cases c),hsn,hT]
     refine aK h (λ_=>ah n1 zS^ah n4 [.int .u64 T.1.1.1,.int .u64 T.1.1.2]^jf b m0 c0 {eg v ao with bf:=T.2,bd:=(dP v.bd T.1.1.1 T.1.1.2 sn).2} mb (dP v.bd T.1.1.1 T.1.1.2 sn).2^(ah mb (ad.cN nw u)^ah nw (ad.dH u.m.w))^aT) (λ_=>True) (λ_ w _ h=>?_) ?_
     ·exact aG {eg v ao with bf:=T.2,bd:=(dP v.bd T.1.1.1 T.1.1.2 sn).2} T.1.1 false hg rfl rfl rfl (by rw[hT];exact EK hv.bf hts.2) h
     ·refine ae (λc=>by cases c) λ_=>?_;obtain⟨s,h⟩:=h.jf (m0:=m0) (c0:=c0) (u:=eg v ao) (mq:=mb) (v:=v.bd) b;have h:au w0 S R w (ah b (rL m0 c0 (eg v ao) s mb)^aP s aD v.bd.1^ah n42 (Ks.mk bZ sn)^ah n1 zS^ah n4 (Ks.mk KR (bx v.bd.1).1)^(ah mb (ad.cN nw u)^ah nw (ad.dH u.m.w))^aT):=h.aG;refine aH h λw h=>ac (af (vv b mb nw m0 c0 (eg v ao) s u hu1 hv.md.aQ hm) h λr w h=>?_);obtain⟨hr,h⟩:=h.aB;rw[hr];refine af (JH b m0 c0 (eg v ao) s mb (bp v) hv.bf (by unfold bp;omega)) h λr w h=>?_;obtain⟨hr,h⟩:=h.aB;have hr:r=T.1:=by rw[hr,hT]
      rw[hr];refine aw h (by rfl) λw h=>aH h λw h=>ar (b:=n42) (x:=sn) h rfl (ac (aj (x:=T.1.1.1) h rfl (aj (x:=T.1.1.2) h rfl ?_)));have h:au w0 S R w (ah n4 (Ks.mk KR T.1.1)^ah b (rL m0 c0 {eg v ao with bf:=(kM (eg v ao).bf (bp v)).2} s mb)^aP s aD v.bd.1^ah n1 zS^(ah mb (ad.cN nw u)^ah nw (ad.dH u.m.w))^aT):=h.aG;have h:au w0 S R w (ah n4 [.int .u64 T.1.1.1,.int .u64 T.1.1.2]^ah b (rL m0 c0 (eV {eg v ao with bf:=(kM v.bf (bp v)).2} v.bd.2) s mb)^aP s aD v.bd.1^ah n1 zS^(ah mb (ad.cN nw u)^ah nw (ad.dH u.m.w))^aT):=h;rw[←hT]at h;have h:=h.gI b m0 c0 {eg v ao with bf:=T.2} mb s v.bd.1 v.bd.2;refine af (Gz b m0 c0 {eg v ao with bf:=T.2} mb T.1.1.1 T.1.1.2 sn v.bd) h λr w h=>?_;obtain⟨_,h⟩:=h.aB;obtain⟨s,h⟩:=h.jf (m0:=m0) (c0:=c0) (u:={eg v ao with bf:=T.2}) (mq:=mb) (v:=(dP v.bd T.1.1.1 T.1.1.2 sn).2) b;have h:au w0 S R w (ah b (rL m0 c0 (eV {eg v ao with bf:=T.2,bd:=(dP v.bd T.1.1.1 T.1.1.2 sn).2} (dP v.bd T.1.1.1 T.1.1.2 sn).2.2) s mb)^aP s aD (dP v.bd T.1.1.1 T.1.1.2 sn).2.1^ah n1 zS^ah n4 [.int .u64 T.1.1.1,.int .u64 T.1.1.2]^(ah mb (ad.cN nw u)^ah nw (ad.dH u.m.w))^aT):=h.aG;exact⟨trivial,(h.gI b m0 c0 {eg v ao with bf:=T.2,bd:=(dP v.bd T.1.1.1 T.1.1.2 sn).2} mb s (dP v.bd T.1.1.1 T.1.1.2 sn).2.1 (dP v.bd T.1.1.1 T.1.1.2 sn).2.2).aG⟩
end Wm

namespace Rf
open bB bi f_ eA fZ eH xk C6 dY fk dZ eS ki mi nD nF lj mj wS ml nG lL Df JU UF Qv Re NQ Io U5 Wm
theorem VN(m:Int)(hm:m<9223372036854775808):mJ (IntKind.u64.wrap (if m>(0:Int)then m else(0:Int)))=mJ (bc m):=by
 have h:IntKind.u64.wrap (if m>(0:Int)then m else(0:Int))=(if m>(0:Int)then m else(0:Int)):=wu (by split<;>omega) (by split<;>omega);rw[h];unfold mJ bc
 (repeat' split)<;>omega
theorem T0(m:Int)(hm:m<9223372036854775808):lZ (IntKind.u64.wrap (if m>(0:Int)then m else(0:Int)))=lZ (bc m):=by
 unfold lZ;rw[VN m hm]
theorem Bq(id:Int)(c:Ks.T Wj)(hc:c.2.2.2.2.2.2.2.2<9223372036854775808):bm (XV id c) aT (λr=>ex λp:Nat=>bh (r=some ⟨p,0⟩) (kK p c.2.2.2.2.2.2.2.2 c.2.2.2.2.2.2.2.1 (ii id c.2.2.2.2.2.2.2.2 c.2.2.2.2.2.2.2.1))):=
 br λw0 S R h=>by
  obtain⟨m,hm⟩:∃m:Int,m=c.2.2.2.2.2.2.2.2:=⟨_,rfl⟩;obtain⟨k,hk⟩:∃k:Int,k=c.2.2.2.2.2.2.2.1:=⟨_,rfl⟩;rw[←hm]at hc;refine aA h λn1 w h=>aH h λw h=>aj (x:=m) h (by rw[hm];rfl) (aj (x:=k) h (by rw[hk];rfl) (aj (x:=m) h (by rw[hm];rfl) ?_));refine af (zP (IntKind.u64.wrap (if m>(0:Int)then m else(0:Int)))) (h.le ((aF _).trans (aV _ _))) λr w h=>?_;obtain⟨⟨mb,nw⟩,h⟩:=h.lX;dsimp only at h;obtain⟨hr,h⟩:=h.aB;rw[hr];rw[T0 m hc]at h;obtain⟨u,hu⟩:∃u:Rm,u=Rm.mk (lZ (bc m)) false 0 739:=⟨_,rfl⟩;have h:au w0 S R w ((ah mb (ad.cN nw u)^ah nw (ad.dH u.m.w))^ah n1 (Ks.mk Wj c)^aT):=by rw[hu];exact h.aG
  refine aI h (by rw[hk];rfl) (aI h (by rw[hm];rfl) (aA h λn6 w h=>?_));have h:=h.nil aD;have h:au w0 S R w (ah n6 (rL m k (eV (ii id m k) 0) ⟨none,0,0⟩ mb)^aP ⟨none,0,0⟩ aD []^(ah mb (ad.cN nw u)^ah nw (ad.dH u.m.w))^aT):=by
   have h:au w0 S R w (ah n6 [.int .i64 id,.int .i64 m,.int .i64 k,.int .i64 (1073741824:Int),.int .u64 (0:Int),.int .u64 (0:Int),.int .u64 (0:Int),.sl ⟨none,0,0⟩,.int .u64 (0:Int),.int .u64 (0:Int),.int .u64 (0:Int),.int .u64 (0:Int),.int .u64 (0:Int),.bool false,.int .u64 (0:Int),.int .u64 (0:Int),.int .u64 (0:Int),.int .u64 (0:Int),.int .u64 (0:Int),.bool false,.ptr (some ⟨mb,0⟩),.int .u64 (0:Int),.int .u64 (0:Int)]^aP ⟨none,0,0⟩ aD []^(ah mb (ad.cN nw u)^ah nw (ad.dH u.m.w))^aT):=h.aG;exact h
  have h:=h.gI n6 m k (ii id m k) mb ⟨none,0,0⟩ [] 0;have h:au w0 S R w (jf n6 m k (ii id m k) mb (ii id m k).bd^(ah mb (ad.cN nw u)^ah nw (ad.dH u.m.w))^aT):=h;rw[←hm,←hk];exact au.gX n6 (au.aE rfl (h.tm n6 m k (ii id m k) mb nw u (by rw[hu];exact⟨rfl,(λhh=>by cases hh),rfl⟩)).bk)
theorem EM{P:Program}{f:FuncId}{args:List V1}{rs:List Sh}{Pre:SP}{Post:Rs.T rs→SP}(H:∀w S R,au w S R w Pre→call P f args rs (λx w'=>au w S R w' (Post x)) w):xW P f args rs Pre Post:=
 λw S R hp=>kh.mono (H w S R (sE hp)) λv w' ⟨x,hv,_,ho⟩=>⟨x,hv,ho⟩
theorem HX(b:Nat)(m0 c0:Int)(v:Sk)(hb:qE v.bf)(hl:bL v.bf=1073741824)(hw:bW v.bf≤1152921504606846976)(n:Int)(hn:n<9223372036854775808):bm (WD (some ⟨b,3⟩) n) (kK b m0 c0 v) (λr=>bh (r=(eh v n).1) (kK b m0 c0 (eh v n).2)):=
 EM λw0 S R h=>by
  obtain⟨mb,nw,u,hu,h⟩:=(h.le (aF _)).kK b (m0:=m0) (c0:=c0) (v:=v);obtain⟨s,h⟩:=h.jf (m0:=m0) (c0:=c0) (u:=v) (mq:=mb) (v:=v.bd) b;have h:au w0 S R w0 (ah b (rL m0 c0 v s mb)^aP s aD v.bd.1^(ah mb (ad.cN nw u)^ah nw (ad.dH u.m.w))^aT):=h;refine af (GV b m0 c0 v s mb n hb hl hw hn) h λr w h=>?_;obtain⟨hr,h⟩:=h.aB;have h:au w0 S R w (ah b (rL m0 c0 (eV (eh v n).2 v.bd.2) s mb)^aP s aD v.bd.1^(ah mb (ad.cN nw u)^ah nw (ad.dH u.m.w))^aT):=h;have h:=h.gI b m0 c0 (eh v n).2 mb s v.bd.1 v.bd.2;have h:au w0 S R w (jf b m0 c0 (eh v n).2 mb (eh v n).2.bd^(ah mb (ad.cN nw u)^ah nw (ad.dH u.m.w))^aT):=h;exact au.aE hr (h.tm b m0 c0 (eh v n).2 mb nw u hu).bk
theorem IW(v:Sk)(n:Int):(b_ v n).2.md=v.md∧(b_ v n).2.bd=v.bd:=by unfold b_;split<;>exact⟨rfl,rfl⟩
theorem xK(b:Nat)(m0 c0:Int)(v:Sk)(ho:0≤v.out∧v.out<9223372036854775808)(n:Int)(hn:n<9223372036854775808):bm (TF (some ⟨b,0⟩) n) (kK b m0 c0 v) (λr=>bh (r=(b_ v n).1) (kK b m0 c0 (b_ v n).2)):=
 EM λw0 S R h=>by
  obtain⟨k1,k2⟩:=IW v n;obtain⟨mb,nw,u,hu,h⟩:=(h.le (aF _)).kK b (m0:=m0) (c0:=c0) (v:=v);obtain⟨s,h⟩:=h.jf (m0:=m0) (c0:=c0) (u:=v) (mq:=mb) (v:=v.bd) b;have h:au w0 S R w0 (ah b (rL m0 c0 v s mb)^aP s aD v.bd.1^(ah mb (ad.cN nw u)^ah nw (ad.dH u.m.w))^aT):=h;refine af (Js b m0 c0 v s mb n ho hn) h λr w h=>?_;obtain⟨hr,h⟩:=h.aB;rw[←k2]at h;have h:au w0 S R w (ah b (rL m0 c0 (eV (b_ v n).2 (b_ v n).2.bd.2) s mb)^aP s aD (b_ v n).2.bd.1^(ah mb (ad.cN nw u)^ah nw (ad.dH u.m.w))^aT):=h;have h:=h.gI b m0 c0 (b_ v n).2 mb s (b_ v n).2.bd.1 (b_ v n).2.bd.2;have h:au w0 S R w (jf b m0 c0 (b_ v n).2 mb (b_ v n).2.bd^(ah mb (ad.cN nw u)^ah nw (ad.dH u.m.w))^aT):=h;exact au.aE hr (h.tm b m0 c0 (b_ v n).2 mb nw u (by rw[k1];exact hu)).bk
structure pE(m0 c0:Int)(v:Sk):Prop where
 m:v.bn=bc m0
 c:v.cap=c0
 l:bL v.bf=1073741824
theorem pE.of{m0 c0:Int}{v v':Sk}(h:pE m0 c0 v)(h1:v'.bn=v.bn)(h2:v'.cap=v.cap)(h3:bL v'.bf=bL v.bf):pE m0 c0 v':=⟨h1.trans h.m,h2.trans h.c,h3.trans h.l⟩
theorem Yg(b:Bf)(m:Int):bL (kM b m).2=bL b:=by unfold kM;split<;>rfl
theorem pE.emit{m0 c0:Int}{v:Sk}(h:pE m0 c0 v)(ao:Int):pE m0 c0 (bY v ao).2:=by
 have e1:(dI v).2.bn=v.bn∧(dI v).2.cap=v.cap∧bL (dI v).2.bf=bL v.bf:=by unfold dI;(repeat' split)<;>exact⟨rfl,rfl,rfl⟩
 have e2:(uo v ao).2.bn=v.bn∧(uo v ao).2.cap=v.cap∧bL (uo v ao).2.bf=bL v.bf:=by
  unfold uo;split
  ·exact⟨rfl,rfl,rfl⟩
  ·exact⟨rfl,rfl,Yg _ _⟩
 unfold bY;split
 ·exact h.of e1.1 e1.2.1 e1.2.2
 ·exact h.of e2.1 e2.2.1 e2.2.2
theorem pE.Dh{m0 c0:Int}{v:Sk}(h:pE m0 c0 v)(ao upto:Int)(xs:List (Int×Int)):pE m0 c0 (nH v ao upto xs).2:=by
 unfold nH;split
 ·exact h.of rfl rfl (by show bL (sV v.bf upto).2=_;unfold sV;split<;>rfl)
 ·exact h
theorem pE.xr{m0 c0:Int}{v:Sk}(h:pE m0 c0 v)(ao:Int):pE m0 c0 (ie v ao):=h.of rfl rfl rfl
theorem pE.done{m0 c0:Int}{v:Sk}(h:pE m0 c0 v)(n:Int):pE m0 c0 (b_ v n).2:=by
 unfold b_;split
 ·exact h
 ·exact h.of rfl rfl rfl
theorem pE.write{m0 c0:Int}{v:Sk}(h:pE m0 c0 v)(n:Int):pE m0 c0 (eh v n).2:=h.of rfl rfl (by show bL (Ad v.bf n).2=_;unfold Ad;(repeat' split)<;>rfl)
end Rf

namespace UG
open bB bi f_ eA fZ eH xk C6 dY fk dZ eS ki mi nD nF lj mj wS ml nG lL Df JU UF Qv Re NQ Io U5 Wm Rf
section
variable {w0 w:World} {S0 R0:Nat→Prop} {F G:SP} {b:Nat} {m0 c0:Int} {v:Sk}
theorem zL(b:Nat){m0 c0:Int}{v:Sk}(hv:oM v)(hL:qF v.bd.1)(hr:pE m0 c0 v)(ao:Int)(hn:U ao):bm (Oq (some ⟨b,0⟩) ao) (kK b m0 c0 v) (λr=>bh (r=(bY v ao).1) (kK b m0 c0 (bY v ao).2)):=by
 have h:=Jt b m0 v hv hL hr.m ao hn;rw[hr.c]at h;exact h
theorem Bt(h:au w0 S0 R0 w F)[tk:Take (kK b m0 c0 v) F G]{K:Int→WP}(k:K v.id w):ld [.int .i64] ⟨b,0⟩ K w:=by
 obtain⟨mb,nw,u,hu,h⟩:=(h.le tk.le).kK b (m0:=m0) (c0:=c0) (v:=v);obtain⟨s,h⟩:=h.jf (m0:=m0) (c0:=c0) (u:=v) (mq:=mb) (v:=v.bd) b;exact aj (x:=v.id) h rfl k
theorem vE(h:au w0 S0 R0 w F)[tk:Take (kK b m0 c0 v) F G]{K:Int→WP}(k:K v.md.aQ w):ld [.ptr] ⟨b,0+20⟩ (λx:Option Pt=>deref x λq=>ld [.int .u64] ⟨q.b,q.o+24⟩ K) w:=by
 obtain⟨mb,nw,u,⟨hu,_,_⟩,h⟩:=(h.le tk.le).kK b (m0:=m0) (c0:=c0) (v:=v);obtain⟨s,h⟩:=h.jf (m0:=m0) (c0:=c0) (u:=v) (mq:=mb) (v:=v.bd) b;exact aj (x:=some ⟨mb,0⟩) h rfl (ac (aj (x:=u.m.aQ) h rfl (by rw[hu];exact k)))
theorem EN(h:au w0 S0 R0 w F)[tk:Take (kK b m0 c0 v) F G]{K:eH.St→WP}(k:∀w',au w0 S0 R0 w' (kK b m0 c0 v^G)→K (Ac v.md) w'):ld [.ptr] ⟨b,0+20⟩ (λx:Option Pt=>call Tryz.prog nZ [.lf (.ptr x)] [.agg bC] K) w:=by
 obtain⟨mb,nw,u,⟨hu1,hu2,hu3⟩,h⟩:=(h.le tk.le).kK b (m0:=m0) (c0:=c0) (v:=v);obtain⟨s,h⟩:=h.jf (m0:=m0) (c0:=c0) (u:=v) (mq:=mb) (v:=v.bd) b;refine aj (x:=some ⟨mb,0⟩) h rfl (af (qe mb nw u) h λr w h=>?_);obtain⟨hr2,h⟩:=h.aB;have er:WO u=Ac v.md:=by unfold WO Ac;rw[hu3,hu1]
 rw[hr2,er];have h:=h.gI b m0 c0 v mb s v.bd.1 v.bd.2;have h:au w0 S0 R0 w (jf b m0 c0 v mb v.bd^(ah mb (ad.cN nw u)^ah nw (ad.dH u.m.w))^G):=h.aG;exact k w (h.tm b m0 c0 v mb nw u ⟨hu1,hu2,hu3⟩)
theorem EO(h:au w0 S0 R0 w F)(hv:oM v)(hr:pE m0 c0 v)[tk:Take (kK b m0 c0 v) F G]{K:Int→Int→Int→Int→WP}(k:∀w',au w0 S0 R0 w' (kK b m0 c0 v^G)→K v.out (cK v) (bW v.bf-bN v.bf) (bp v) w'):
  (bF<|deref (some ⟨b,0⟩) λq10=>deref (some ⟨b,0⟩) λq11=>deref (some ⟨b,0⟩) λq12=>deref (some ⟨b,0⟩) λq13=>
   ld [.int .u64] ⟨q10.b,q10.o+21⟩ λ(x14:Int)=>ld [.int .u64] ⟨q12.b,q12.o+6⟩ λ(x15:Int)=>ld [.int .u64] ⟨q13.b,q13.o+5⟩ λ(x16:Int)=>
   call Tryz.prog js [.lf (.ptr (some ⟨q11.b,q11.o+7⟩))] [.lf (.int .u64)] λ(r17:Int)=>
   co ⟨q13.b,q13.o+5⟩ (Ks.mk [.int .u64] x16)<|co ⟨q12.b,q12.o+6⟩ (Ks.mk [.int .u64] x15)<|co ⟨q10.b,q10.o+21⟩ (Ks.mk [.int .u64] x14)<|
   call Tryz.prog lg [.lf (.ptr (some ⟨b,0⟩))] [.lf (.int .i64)] λ(r18:Int)=>
   co ⟨q13.b,q13.o+5⟩ (Ks.mk [.int .u64] x16)<|co ⟨q12.b,q12.o+6⟩ (Ks.mk [.int .u64] x15)<|co ⟨q10.b,q10.o+21⟩ (Ks.mk [.int .u64] x14)<|
   K x14 r17 (IntKind.u64.wrap (x15-x16)) r18) w:=by
 have hbl:v.bd.1.length≤4294967296:=by have:=hv.bl;omega
 have b2:=hv.bf.u;have b3:=hv.bf.un;have b4:=hv.bf.nw;have b5:=hv.bf.w;obtain⟨mb,nw,u,⟨hu1,hu2,hu3⟩,h⟩:=(h.le tk.le).kK b (m0:=m0) (c0:=c0) (v:=v);refine aH h λw h=>ac (ac (ac (ac ?_)));obtain⟨s,h⟩:=h.jf (m0:=m0) (c0:=c0) (u:=v) (mq:=mb) (v:=v.bd) b;have h:au w0 S0 R0 w (ah b (rL m0 c0 v s mb)^aP s aD v.bd.1^(ah mb (ad.cN nw u)^ah nw (ad.dH u.m.w))^G):=h;refine aj (x:=v.out) h rfl (aj (x:=bW v.bf) h rfl (aj (x:=bN v.bf) h rfl ?_));have h:au w0 S0 R0 w (ah b (rL m0 c0 (eV v v.bd.2) s mb)^aP s aD v.bd.1^(ah mb (ad.cN nw u)^ah nw (ad.dH u.m.w))^G):=h;have h:=h.gI b m0 c0 v mb s v.bd.1 v.bd.2;refine af (nk b m0 c0 v mb v.bd hbl) h λr w h=>?_;obtain⟨hr1,h⟩:=h.aB;rw[hr1];obtain⟨s,h⟩:=h.jf (m0:=m0) (c0:=c0) (u:=v) (mq:=mb) (v:=v.bd) b;have h:au w0 S0 R0 w (ah b (rL m0 c0 v s mb)^(ah mb (ad.cN nw u)^ah nw (ad.dH u.m.w))^aP s aD v.bd.1^G):=h.aG;refine aI h rfl (aI h rfl (aI h rfl ?_));refine af (vv b mb nw m0 c0 v s u hu1 hv.md.aQ hr.m) h λr w h=>?_;obtain⟨hr1,h⟩:=h.aB;rw[hr1];refine aI h rfl (aI h rfl (aI h rfl ?_));rw[wu (n:=bW v.bf-bN v.bf) (by omega) (by omega)];have h:au w0 S0 R0 w (ah b (rL m0 c0 (eV v v.bd.2) s mb)^aP s aD v.bd.1^(ah mb (ad.cN nw u)^ah nw (ad.dH u.m.w))^G):=h.aG;have h:=h.gI b m0 c0 v mb s v.bd.1 v.bd.2;have h:au w0 S0 R0 w (jf b m0 c0 v mb v.bd^(ah mb (ad.cN nw u)^ah nw (ad.dH u.m.w))^G):=h.aG;exact k w (h.tm b m0 c0 v mb nw u ⟨hu1,hu2,hu3⟩)
end
end UG

end Go.X
