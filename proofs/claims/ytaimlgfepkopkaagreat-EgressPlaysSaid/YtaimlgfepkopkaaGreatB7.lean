/- Contracts and plain facts: SockA SockB SockM SockC SockD SockE SockF SockG SockH SockI SockJ SockK SockL SockN SockO. -/
import Derived.Test.YtaimlgfepkopkaaGreatB6
set_option linter.all false
namespace Go.X
open Go.Proofs
namespace dY
open bB bi
abbrev Bf:=Int×Int×Int×Int
abbrev qm:Ks:=[.int .u64,.int .u64,.int .u64,.int .u64]
abbrev bW(b:Bf):Int:=b.1
abbrev bN(b:Bf):Int:=b.2.1
abbrev bU(b:Bf):Int:=b.2.2.1
abbrev bL(b:Bf):Int:=b.2.2.2
structure qE(b:Bf):Prop where
 u:0≤bU b
 un:bU b≤bN b
 nw:bN b≤bW b
 l:bW b-bU b≤bL b
 ll:bL b≤1073741824
 w:bW b≤4611686018427387904
def Ad(b:Bf)(n:Int):Int×Bf:=if n<1 then(1,b)else if n>bL b-(bW b-bU b)then(5,b)else(0,(bW b+n,bN b,bU b,bL b))
def kM(b:Bf)(most:Int):((Int×Int)×Bool)×Bf:=if most≥1∧bW b-bN b≠0 then(((bN b,bN b+min (bW b-bN b) most),true),(bW b,bN b+min (bW b-bN b) most,bU b,bL b))else(((0,0),false),b)
def sV(b:Bf)(upto:Int):Int×Bf:=if upto>bN b then(11,b)else(0,(bW b,bN b,if upto>bU b then upto else bU b,bL b))
theorem qE.ak{b:Bf}(h:qE b)(upto:Int):qE (sV b upto).2:=by
 have h1:=h.u;have h2:=h.un;have h3:=h.nw;have h4:=h.l;unfold sV;split
 ·exact h
 ·refine⟨?_,?_,h3,?_,h.ll,h.w⟩
  ·show 0≤if upto>bU b then upto else bU b
   split<;>omega
  ·show(if upto>bU b then upto else bU b)≤bN b;split<;>omega
  ·show bW b-(if upto>bU b then upto else bU b)≤bL b;split<;>omega
theorem yd(n:Int):bm (RE n) aT (λr=>ex λp:Nat=>bh (r=some ⟨p,0⟩) (ah p (Ks.mk qm (0,0,0,IntKind.u64.wrap (if(1073741824:Int)<(if(0:Int)>n then(0:Int)else n)then(1073741824:Int)else(if(0:Int)>n then(0:Int)else n)))))):=
 br λw0 S R h=>by
  refine aA h λp w h=>?_;exact au.gX p (au.aE rfl h.bk)
theorem rb(p:Nat)(b:Bf)(hb:qE b):bm (Vu (some ⟨p,0⟩)) (ah p (Ks.mk qm b)) (λr=>bh (r=bW b-bN b) (ah p (Ks.mk qm b))):=
 br λw0 S R h=>by
  have h2:=hb.un;have h3:=hb.nw;have h4:=hb.u;have h5:=hb.w;refine ae (λc=>(by simp at c)) λ_=>aH h λw h=>ac (ac (aj h rfl (aj h rfl ?_)));exact au.aE (wu (n:=bW b-bN b) (by omega) (by omega)) h
theorem IB(p:Nat)(b:Bf)(hb:qE b):bm (SN (some ⟨p,0⟩)) (ah p (Ks.mk qm b)) (λr=>bh (r=bW b-bU b) (ah p (Ks.mk qm b))):=
 br λw0 S R h=>by
  have h2:=hb.un;have h3:=hb.nw;have h4:=hb.u;have h5:=hb.w;refine ae (λc=>(by simp at c)) λ_=>aH h λw h=>ac (ac (aj h rfl (aj h rfl ?_)));exact au.aE (wu (n:=bW b-bU b) (by omega) (by omega)) h
theorem Ff(p:Nat)(b:Bf)(hb:qE b)(n:Int)(hn:n<9223372036854775808):bm (Sb (some ⟨p,0⟩) n) (ah p (Ks.mk qm b)) (λr=>bh (r=(Ad b n).1) (ah p (Ks.mk qm (Ad b n).2))):=
 br λw0 S R h=>by
  have h1:=hb.un;have h2:=hb.nw;have h3:=hb.u;have h4:=hb.l;have h5:=hb.ll;have h6:=hb.w;refine ae (λc=>(by simp at c)) λ_=>ae (λc=>?_) λc=>?_
  ·have c:n<1:=bJ c;have e:Ad b n=(1,b):=(by unfold Ad;rw[aC c]);rw[e];exact au.aE rfl h
  have c:¬n<1:=bQ c;refine aH h λw h=>ac (aj h rfl (af (IB p b hb) h λr w h=>?_));obtain⟨hr,h⟩:=h.aB;rw[hr];refine aI h rfl (ae (λc2=>?_) λc2=>?_)
  ·have c2:=bJ c2;have c2:IntKind.u64.wrap n>IntKind.u64.wrap (bL b-(bW b-bU b)):=c2;rw[wu (n:=n) (by omega) (by omega),wu (n:=bL b-(bW b-bU b)) (by omega) (by omega)]at c2;have e:Ad b n=(5,b):=(by unfold Ad;rw[ay c,aC c2]);rw[e];exact au.aE rfl h.aG
  ·have c2:=bQ c2;have c2:¬IntKind.u64.wrap n>IntKind.u64.wrap (bL b-(bW b-bU b)):=c2;rw[wu (n:=n) (by omega) (by omega),wu (n:=bL b-(bW b-bU b)) (by omega) (by omega)]at c2;have e:Ad b n=(0,(bW b+n,bN b,bU b,bL b)):=(by unfold Ad;rw[ay c,ay c2]);rw[e];have ew:IntKind.u64.wrap (bW b+IntKind.u64.wrap n)=bW b+n:=(by rw[wu (n:=n) (by omega) (by omega)];exact wu (by omega) (by omega));refine ac (aj h rfl (ac ?_));rw[show IntKind.u64.wrap (b.1+IntKind.u64.wrap n)=bW b+n from ew];refine az h p (Ks.mk qm (bW b+n,bN b,bU b,bL b)) rfl rfl rfl λw h=>?_;exact au.aE rfl h.aG
theorem IC(p:Nat)(b:Bf)(hb:qE b)(most:Int)(hm:most<9223372036854775808):bm (Ds (some ⟨p,0⟩) most) (ah p (Ks.mk qm b)) (λr=>bh (r=(kM b most).1) (ah p (Ks.mk qm (kM b most).2))):=
 br λw0 S R h=>by
  have h1:=hb.un;have h2:=hb.nw;have h3:=hb.u;have h6:=hb.w;refine aA h λn1 w h=>aA h λn2 w h=>aw h (by rfl) λw h=>?_;refine aK h (λ_=>ah n1 [.int .u64 0,.int .u64 0]^ah n2 [.int .u64 (kM b most).1.1.1,.int .u64 (kM b most).1.1.2]^ah p (Ks.mk qm (kM b most).2)) (λy:Bool=>y=(kM b most).1.2) (λ(y:Bool) w hy h=>?_) ?_
  ·refine ar (b:=n2) (x:=(kM b most).1.1) h rfl (aw h (by rfl) λw h=>ar (b:=n1) (x:=(kM b most).1.1) h rfl ?_);refine au.aE ?_ h.aG;rw[hy]
  ·have no:∀{w:World},¬(most≥1∧bW b-bN b≠0)→au w0 S R w (ah n1 [.int .u64 0,.int .u64 0]^ah n2 [.int .u64 0,.int .u64 0]^ah p (Ks.mk qm b))→(λy:Bool=>y=(kM b most).1.2) false∧au w0 S R w (ah n1 [.int .u64 0,.int .u64 0]^ah n2 [.int .u64 (kM b most).1.1.1,.int .u64 (kM b most).1.1.2]^ah p (Ks.mk qm (kM b most).2)):=λ{w} c h=>by
    have e:kM b most=(((0,0),false),b):=(by unfold kM;rw[ay c]);rw[e];exact⟨rfl,h⟩
   have h:au w0 S R w (ah n1 [.int .u64 0,.int .u64 0]^ah n2 [.int .u64 0,.int .u64 0]^ah p (Ks.mk qm b)):=h.aG;refine cS (λ_:Bool=>ah n1 [.int .u64 0,.int .u64 0]^ah n2 [.int .u64 0,.int .u64 0]^ah p (Ks.mk qm b)) (λy:Bool=>y=false) (λ_=>0) h rfl ?_;rintro(y:Bool) w hy h;rw[hy];refine ae (λc=>?_) λc=>?_
   ·have c:most≥1:=bJ c;refine af (rb p b hb) h λr w h=>?_;obtain⟨hr,h⟩:=h.aB;rw[hr];have ek:(if bW b-bN b<IntKind.u64.wrap most then bW b-bN b else IntKind.u64.wrap most)=min (bW b-bN b) most:=by
     rw[wu (n:=most) (by omega) (by omega)];split<;>omega
    rw[ek];refine ae (λc2=>?_) λc2=>?_
    ·have c2:min (bW b-bN b) most=0:=gk;exact no (by omega) h.aG
    ·have c2:¬min (bW b-bN b) most=0:=gk;have e:kM b most=(((bN b,bN b+min (bW b-bN b) most),true),(bW b,bN b+min (bW b-bN b) most,bU b,bL b)):=(by unfold kM;rw[aC ⟨c,by omega⟩]);have ew:IntKind.u64.wrap (bN b+min (bW b-bN b) most)=bN b+min (bW b-bN b) most:=wu (by omega) (by omega);rw[e];refine aH h λw h=>ac (ac (aj h rfl (aj h rfl ?_)));rw[show IntKind.u64.wrap (b.2.1+min (bW b-bN b) most)=bN b+min (bW b-bN b) most from ew];refine aw h (by rfl) λw h=>ac (aj h rfl (ac ?_));rw[show IntKind.u64.wrap (b.2.1+min (bW b-bN b) most)=bN b+min (bW b-bN b) most from ew];refine az h p (Ks.mk qm (bW b,bN b+min (bW b-bN b) most,bU b,bL b)) rfl rfl rfl λw h=>?_;exact⟨rfl,h.aG⟩
   ·have c:¬most≥1:=bQ c;exact no (λx=>c x.1) h
theorem Fb(p:Nat)(b:Bf)(upto:Int):bm (Sc (some ⟨p,0⟩) upto) (ah p (Ks.mk qm b)) (λr=>bh (r=(sV b upto).1) (ah p (Ks.mk qm (sV b upto).2))):=
 br λw0 S R h=>by
  refine ae (λc=>(by simp at c)) λ_=>ac (aj h rfl (ae (λc=>?_) λc=>?_))
  ·have c:upto>bN b:=bJ c;have e:sV b upto=(11,b):=(by unfold sV;rw[aC c]);rw[e];exact au.aE rfl h
  ·have c:¬upto>bN b:=bQ c;have e:sV b upto=(0,(bW b,bN b,if upto>bU b then upto else bU b,bL b)):=(by unfold sV;rw[ay c]);rw[e];refine ac (aj h rfl (ac (az h p (Ks.mk qm (bW b,bN b,if upto>bU b then upto else bU b,bL b)) rfl rfl rfl λw h=>?_)));exact au.aE rfl h.aG
end dY

namespace fk
open bB bi
abbrev Sp:=Int×Int×Int×Int×Bool×Int×Int×Int×Bool×Int×Int
abbrev m_:Ks:=[.int .u64,.int .u64,.int .u64,.int .u64,.bool,.int .u64,.int .u64,.int .u64,.bool,.int .u64,.int .u64]
abbrev WV:Ks:=[.int .u64,.int .u64,.int .u64,.int .u64,.bool]
abbrev Sn:=Int×Int×Int×Int×Bool
abbrev Rb:Ks:=[.int .u64,.int .u64,.int .u64,.int .u64,.int .u64,.int .u64,.int .u64,.int .u64,.bool]
abbrev Sa:=Int×Int×Int×Int×Int×Int×Int×Int×Bool
abbrev pD(s:Sp):Int:=s.1
abbrev pT(s:Sp):Int:=s.2.1
abbrev pF(s:Sp):Int:=s.2.2.1
abbrev pL(s:Sp):Int:=s.2.2.2.1
abbrev pH(s:Sp):Bool:=s.2.2.2.2.1
abbrev pG(s:Sp):Int:=s.2.2.2.2.2.1
abbrev od(s:Sp):Int:=s.2.2.2.2.2.2.1
abbrev mW(s:Sp):Int:=s.2.2.2.2.2.2.2.1
abbrev nr(s:Sp):Bool:=s.2.2.2.2.2.2.2.2.1
abbrev mA(s:Sp):Int:=s.2.2.2.2.2.2.2.2.2.1
abbrev mV(s:Sp):Int:=s.2.2.2.2.2.2.2.2.2.2
structure oY(s:Sp):Prop where
 d:U (pD s)
 t:U (pT s)
 f:U (pF s)
 l:U (pL s)
 g:U (pG s)
 pd:U (od s)
 pt:U (mW s)
 si:U (mA s)
 ai:U (mV s)
def VY:Sp:=(0,0,0,0,false,0,0,0,false,0,0)
theorem Ue:oY VY:=⟨aX 0,aX 0,aX 0,aX 0,aX 0,aX 0,aX 0,aX 0,aX 0⟩
def gu(s:Sp)(ao flight:Int):Sp:=if flight=0 then(pD s,ao,ao,pL s,pH s,pG s,od s,mW s,nr s,mA s,mV s)else s
def jm(s:Sp)(ao flight:Int):Sn×Sp:=((ao,pD (gu s ao flight),pT (gu s ao flight),pF (gu s ao flight),decide (pL (gu s ao flight)≠0)),gu s ao flight)
def nM(s:Sp)(flight:Int):Sp:=(pD s,pT s,pF s,(if bA (pD s) flight>1 then bA (pD s) flight else 1),pH s,pG s,od s,mW s,nr s,mA s,mV s)
def jg(a b:Int):Int:=if b≤(if a≤0 then 0 else a)then(if a≤0 then 0 else a)else b
def fN(s:Sp)(ao be flight:Int):Sa×Sp:=(if pH s then(ao,pD s,od s,jg (mA s) (dF ao (mW s)),mV s,pG s,be,flight,nr s)else(ao,pD s,0,0,0,0,be,flight,false),(pD s,pT s,pF s,pL s,false,0,0,0,false,0,0))
theorem jj:bm RH aT (λr=>ex λp:Nat=>bh (r=some ⟨p,0⟩) (ah p (Ks.mk m_ VY))):=
 br λw0 S R h=>by
  refine aA h λp w h=>?_;exact au.gX p (au.aE rfl h.bk)
theorem rT(p:Nat)(s:Sp)(ao flight:Int):bm (Ky (some ⟨p,0⟩) ao flight) (ah p (Ks.mk m_ s)) (λr=>bh (r=(jm s ao flight).1) (ah p (Ks.mk m_ (jm s ao flight).2))):=
 br λw0 S R h=>by
  refine aA h λn1 w h=>ae (λc=>(by simp at c)) λ_=>?_;refine aK h (λ_=>ah n1 [.int .u64 0,.int .u64 0,.int .u64 0,.int .u64 0,.bool false]^ah p (Ks.mk m_ (gu s ao flight))) (λ_=>True) (λ_ w _ h=>?_) ?_
  ·refine aH h λw h=>ac (ac (ac (ac (aj h rfl (aj h rfl (aj h rfl (aj h rfl ?_)))))));have eb:((gu s ao flight).2.2.2.1 !=(0:Int))=decide (pL (gu s ao flight)≠0):=by
    rw[jk];simp
   rw[eb];refine aw h (by rfl) λw h=>ar (b:=n1) (x:=(jm s ao flight).1) h rfl ?_;refine au.aE rfl ?_;rw[show(jm s ao flight).2=gu s ao flight from rfl];exact h.aG
  ·refine ae (λc=>?_) λc=>?_
   ·have c:flight=0:=bV;have e:gu s ao flight=(pD s,ao,ao,pL s,pH s,pG s,od s,mW s,nr s,mA s,mV s):=(by unfold gu;rw[aC c]);rw[e];refine ac (az h p (Ks.mk m_ (pD s,pT s,ao,pL s,pH s,pG s,od s,mW s,nr s,mA s,mV s)) rfl rfl rfl λw h=>?_);refine ac (az h p (Ks.mk m_ (pD s,ao,ao,pL s,pH s,pG s,od s,mW s,nr s,mA s,mV s)) rfl rfl rfl λw h=>?_);exact⟨trivial,h.aG⟩
   ·have c:¬flight=0:=bV;have e:gu s ao flight=s:=(by unfold gu;rw[ay c]);rw[e];exact⟨trivial,h⟩
theorem I9(p:Nat)(s:Sp)(hs:oY s)(flight:Int)(hf:U flight):bm (SU (some ⟨p,0⟩) flight) (ah p (Ks.mk m_ s)) (λ_=>ah p (Ks.mk m_ (nM s flight))):=
 br λw0 S R h=>by
  refine ae (λ_=>?_) λc=>(by simp at c);refine ac (aj h rfl (af (eJ (pD s) flight hs.d hf) h λr w h=>?_));obtain⟨hr,h⟩:=h.aB;rw[hr];refine ac (az h p (Ks.mk m_ (nM s flight)) rfl rfl rfl λw h=>?_);exact h.aG
theorem DY(sl:Sl)(a b:Int):bm (Tq sl) (aT^ba sl KU [a,b]) (λr=>bh (r=jg a b) aT):=
 br λw0 S R h=>by
  have h:au w0 S R w0 (ba sl KU [a,b]^aT):=h.aG;have hs:sl.len=2:=(h.rd (s:=sl)).2;have e1:IntKind.i64.wrap ((0:Int)+1)=1:=rfl;have e2:IntKind.i64.wrap ((1:Int)+1)=2:=rfl;obtain⟨m,hm⟩:∃m,m=if a≤0 then 0 else a:=⟨_,rfl⟩
  refine cS (λ_:Int×Int=>ba sl KU [a,b]^aT) (λy:Int×Int=>y=(0,0)∨y=(m,1)∨y=(jg a b,2)) (λy:Int×Int=>(2-y.2).toNat) h (.inl rfl) ?_;rintro(y:Int×Int) w hy h;rcases hy with rfl|rfl|rfl
  ·refine ae (λ_=>?_) λc=>(by rw[hs]at c;cases c);refine bR (s:=sl) h (by decide) (by simp) (dW h sl 0 (y:=a) rfl rfl ?_);dsimp only;rw[e1];refine ae (λc=>?_) λc=>?_
   ·have c:a≤0:=bJ c;rw[aC c]at hm;exact⟨⟨.inr (.inl (by rw[hm])),h⟩,by show(2-(1:Int)).toNat<(2-(0:Int)).toNat;omega⟩
   ·have c:¬a≤0:=bQ c;rw[ay c]at hm;exact⟨⟨.inr (.inl (by rw[hm])),h⟩,by show(2-(1:Int)).toNat<(2-(0:Int)).toNat;omega⟩
  ·refine ae (λ_=>?_) λc=>(by rw[hs]at c;cases c);refine bR (s:=sl) h (show(0:Int)≤1 by decide) (by show 1<2;decide) (dW h sl 1 (y:=b) rfl rfl ?_);dsimp only;rw[e2];refine ae (λc=>?_) λc=>?_
   ·have c:b≤m:=bJ c;have e:jg a b=m:=(by unfold jg;rw[←hm,aC c]);exact⟨⟨.inr (.inr (by rw[e])),h⟩,by show(2-(2:Int)).toNat<(2-(1:Int)).toNat;omega⟩
   ·have c:¬b≤m:=bQ c;have e:jg a b=b:=(by unfold jg;rw[←hm,ay c]);exact⟨⟨.inr (.inr (by rw[e])),h⟩,by show(2-(2:Int)).toNat<(2-(1:Int)).toNat;omega⟩
  ·refine ae (λc=>(by rw[hs]at c;cases c)) λ_=>?_;exact au.aE rfl h.fV
def bc(m:Int):Int:=if 9000<(if 100>m then 100 else m)then 9000 else(if 100>m then 100 else m)
theorem rf(m:Int):100≤bc m∧bc m≤9000:=by unfold bc;(repeat' split)<;>omega
def vC(aQ bn:Int):Int:=(if(if aQ/1024/bc bn<2 then 2 else aQ/1024/bc bn)>65536/bc bn then 65536/bc bn else(if aQ/1024/bc bn<2 then 2 else aQ/1024/bc bn))*bc bn
theorem rY(aQ bn:Int)(hr:0≤aQ):200≤vC aQ bn∧vC aQ bn≤65536:=by
 have hm:=rf bn;have hk:7≤65536/bc bn:=by rw[Cg (by omega)];omega
 have hk2:65536/bc bn*bc bn≤65536:=Int.ediv_mul_le _ (by omega);obtain⟨y,hy⟩:∃y,y=(if(if aQ/1024/bc bn<2 then 2 else aQ/1024/bc bn)>65536/bc bn then 65536/bc bn else(if aQ/1024/bc bn<2 then 2 else aQ/1024/bc bn)):=⟨_,rfl⟩;have hy2:2≤y∧y≤65536/bc bn:=by rw[hy];(repeat' split)<;>omega
 have e:vC aQ bn=y*bc bn:=by unfold vC;rw[←hy]
 rw[e];have h1:2*bc bn≤y*bc bn:=Mx hy2.1 (by omega);have h2:y*bc bn≤65536/bc bn*bc bn:=Mx hy2.2 (by omega);omega
theorem xQ(aQ bn:Int)(hr:U aQ):bm (XT aQ bn) aT (λr=>bh (r=vC aQ bn) aT):=
 br λw0 S R h=>by
  have hm:=rf bn;unfold U at hr;have em:IntKind.u64.wrap (if(9000:Int)<(if(100:Int)>bn then(100:Int)else bn)then(9000:Int)else(if(100:Int)>bn then(100:Int)else bn))=bc bn:=wu (n:=bc bn) (by omega) (by omega);rw[em];have ht:=rY aQ bn hr.1;have hk:7≤65536/bc bn:=by rw[Cg (by omega)];omega
  have hk9:65536/bc bn≤65536:=ze _ (by decide);have eq1:IntKind.u64.wrap (aQ.tdiv 1024)=aQ/1024:=by rw[lP hr.1];exact wu (by omega) (by omega)
  have hq0:0≤aQ/1024/bc bn:=Cp (by omega) (by omega);have hq1:aQ/1024/bc bn≤aQ/1024:=ze _ (by omega);have eq2:IntKind.u64.wrap ((aQ/1024).tdiv (bc bn))=aQ/1024/bc bn:=by rw[lP (by omega)];exact wu (by omega) (by omega)
  have eq3:IntKind.u64.wrap ((65536:Int).tdiv (bc bn))=65536/bc bn:=by rw[lP (by decide)];exact wu (by omega) (by omega)
  rw[eq1,eq2,eq3];obtain⟨y0,hy0⟩:∃y0,y0=aQ/1024/bc bn:=⟨_,rfl⟩;obtain⟨k,hkk⟩:∃k,k=65536/bc bn:=⟨_,rfl⟩;have et:vC aQ bn=(if(if y0<2 then 2 else y0)>k then k else(if y0<2 then 2 else y0))*bc bn:=by unfold vC;rw[←hy0,←hkk]
  rw[←hy0,←hkk];rw[←hkk]at hk hk9;refine⟨by omega,?_⟩;refine cS (λ_:Int=>aT) (λy:Int=>0≤y∧(if(if y<2 then 2 else y)>k then k else(if y<2 then 2 else y))=(if(if y0<2 then 2 else y0)>k then k else(if y0<2 then 2 else y0))) (λy:Int=>if y<2 then 2 else if y>k then 1 else 0) h ⟨by rw[hy0];exact hq0,rfl⟩ ?_;rintro(y:Int) w ⟨hy,hye⟩ h;refine ae (λc=>?_) λc=>?_
  ·have c:y<2:=bJ c;refine⟨⟨⟨by decide,?_⟩,h⟩,?_⟩
   ·rw[←hye,aC c];rfl
   ·rw[aC c,ay (by decide),ay (by omega)];decide
  ·have c:¬y<2:=bQ c;rw[ay c]at hye;refine⟨by omega,ae (λc2=>?_) λc2=>?_⟩
   ·have c2:y>k:=bJ c2;rw[aC c2]at hye;refine⟨by omega,⟨⟨by omega,?_⟩,h⟩,?_⟩
    ·rw[ay (show ¬k<2 by omega),ay (by omega)];exact hye
    ·rw[ay (show ¬k<2 by omega),ay (by omega),ay c,aC c2];decide
   ·have c2:¬y>k:=bQ c2;rw[ay c2]at hye;refine au.aE ?_ h;rw[et,←hye]at ht⊢;rw[wu (n:=y*bc bn) (by omega) (by omega),wi (n:=y*bc bn) (by omega) (by omega)]
def gP(aQ tso most:Int):Int:=jg (2*tso) (if most<aQ/1024 then most else aQ/1024)
theorem IA(aQ tso most:Int)(hr:U aQ)(ht:0≤tso∧tso≤65536)(hm:-9223372036854775808≤most∧most<9223372036854775808):bm (SW aQ tso most) aT (λr=>bh (r=gP aQ tso most) aT):=
 br λw0 S R h=>by
  unfold U at hr;have e1:IntKind.i64.wrap ((0:Int)+1)=1:=rfl;have e2:IntKind.i64.wrap ((1:Int)+1)=2:=rfl;have ea:IntKind.u64.wrap ((2:Int)*(IntKind.u64.wrap (if(0:Int)>tso then(0:Int)else tso)))=2*tso:=by
   rw[ay (by omega),wu (n:=tso) (by omega) (by omega)];exact wu (by omega) (by omega)
  have eb:(if(IntKind.u64.wrap (if(0:Int)>most then(0:Int)else most))<(IntKind.u64.wrap (aQ.tdiv (1024:Int)))then(IntKind.u64.wrap (if(0:Int)>most then(0:Int)else most))else(IntKind.u64.wrap (aQ.tdiv (1024:Int))))=if(if(0:Int)>most then(0:Int)else most)<aQ/1024 then(if(0:Int)>most then(0:Int)else most)else aQ/1024:=by
   rw[wu (n:=if(0:Int)>most then(0:Int)else most) (by split<;>omega) (by split<;>omega),lP hr.1,wu (n:=aQ/1024) (by omega) (by omega)]
  rw[ea,eb];obtain⟨x,hx⟩:∃x,x=2*tso:=⟨_,rfl⟩;obtain⟨z,hz⟩:∃z,z=if(if(0:Int)>most then(0:Int)else most)<aQ/1024 then(if(0:Int)>most then(0:Int)else most)else aQ/1024:=⟨_,rfl⟩
  have eL:gP aQ tso most=jg x z:=by
   unfold gP;rw[←hx];by_cases c:(0:Int)>most
   ·rw[aC c]at hz;have hz0:z=0:=by rw[hz];split<;>omega
    rw[hz0,aC (show most<aQ/1024 by omega)];unfold jg;repeat' split
    all_goals omega
   ·rw[ay c]at hz;rw[←hz]
  rw[←hx,←hz,eL];obtain⟨m,hmm⟩:∃m,m=if x≤0 then 0 else x:=⟨_,rfl⟩
  refine cS (λ_:Int×Int=>aT) (λy:Int×Int=>y=(0,0)∨y=(m,1)∨y=(jg x z,2)) (λy:Int×Int=>(2-y.2).toNat) h (.inl rfl) ?_;rintro(y:Int×Int) w hy h;rcases hy with rfl|rfl|rfl
  ·refine ae (λ_=>?_) λc=>(by cases c);refine⟨⟨by show(0:Int)≤0;decide,by show(0:Int)<2;decide⟩,(x:Int),rfl,?_⟩;dsimp only;rw[e1];refine ae (λc=>?_) λc=>?_
   ·have c:x≤0:=bJ c;rw[aC c]at hmm;exact⟨⟨.inr (.inl (by rw[hmm])),h⟩,by show(2-(1:Int)).toNat<(2-(0:Int)).toNat;omega⟩
   ·have c:¬x≤0:=bQ c;rw[ay c]at hmm;exact⟨⟨.inr (.inl (by rw[hmm])),h⟩,by show(2-(1:Int)).toNat<(2-(0:Int)).toNat;omega⟩
  ·refine ae (λ_=>?_) λc=>(by cases c);refine⟨⟨by show(0:Int)≤1;decide,by show(1:Int)<2;decide⟩,(z:Int),rfl,?_⟩;dsimp only;rw[e2];refine ae (λc=>?_) λc=>?_
   ·have c:z≤m:=bJ c;have e:jg x z=m:=(by unfold jg;rw[←hmm,aC c]);exact⟨⟨.inr (.inr (by rw[e])),h⟩,by show(2-(2:Int)).toNat<(2-(1:Int)).toNat;omega⟩
   ·have c:¬z≤m:=bQ c;have e:jg x z=z:=(by unfold jg;rw[←hmm,ay c]);exact⟨⟨.inr (.inr (by rw[e])),h⟩,by show(2-(2:Int)).toNat<(2-(1:Int)).toNat;omega⟩
  ·refine ae (λc=>(by cases c)) λ_=>?_;exact au.aE rfl h
theorem nh(out limit:Int):bm (SV out limit) aT (λr=>bh (r=decide (out<limit)) aT):=
 br λw0 S R h=>by
  exact au.aE rfl h
end fk

namespace dZ
open bB bi f_ eA fZ eH dY fk
abbrev Sg:=Int×Int×Int×Int×Bool
abbrev PH:Sg:=(0,0,0,0,false)
structure Sk where
 id:Int
 bn:Int
 cap:Int
 bf:Bf
 bd:List Pc×Int
 sp:Sp
 md:Md
 out:Int
 nx:Int
def bp(v:Sk):Int:=vC v.md.aQ v.bn
def cK(v:Sk):Int:=dh v.bd.1
def dI(v:Sk):Int×Sk:=
 if(bx v.bd.1).2=false∧bW v.bf-bN v.bf=0 then(7,if cK v<v.md.cv then{v with sp:=nM v.sp (cK v)}else v)
 else if ¬(cK v<v.md.cv∧v.out<gP v.md.aQ (bp v) v.cap)then(5,v)
 else if(bx v.bd.1).2=false∧(v.bd.1.length:Int)≥4096 then(5,v)else(0,v)
def kH(v:Sk)(rg:Int×Int)(again:Bool)(ao:Int):Sg×Sk:=
 ((v.id,rg.1,rg.2-rg.1,(if v.nx>ao then v.nx else ao),again),{v with nx:=bA (if v.nx>ao then v.nx else ao) (dJ (rg.2-rg.1) v.md.aQ),out:=v.out+(rg.2-rg.1)})
abbrev eg(v:Sk)(ao:Int):Sk:={v with sp:=(jm v.sp ao (cK v)).2}
def uo(v:Sk)(ao:Int):Sg×Sk:=
 if(bx v.bd.1).2 then kH {eg v ao with bd:=(dw v.bd.1 (jm v.sp ao (cK v)).1,v.bd.2)} (bx v.bd.1).1 true ao
 else kH {eg v ao with bf:=(kM v.bf (bp v)).2,bd:=(dP v.bd (kM v.bf (bp v)).1.1.1 (kM v.bf (bp v)).1.1.2 (jm v.sp ao (cK v)).1).2} (kM v.bf (bp v)).1.1 false ao
def bY(v:Sk)(ao:Int):(Sg×Int)×Sk:=if(dI v).1≠0 then((PH,(dI v).1),(dI v).2)else(((uo v ao).1,0),(uo v ao).2)
def b_(v:Sk)(n:Int):Int×Sk:=if n<1∨n>v.out then(1,v)else(0,{v with out:=v.out-n})
def eh(v:Sk)(n:Int):Int×Sk:=((Ad v.bf n).1,{v with bf:=(Ad v.bf n).2})
def jz(v:Sk)(ao be:Int):Sk:={v with sp:=(fN v.sp ao be (cK v)).2,md:=oP v.md (fN v.sp ao be (cK v)).1 (bp v)}
def ie(v:Sk)(ao:Int):Sk:=jz {v with bd:=(v.bd.1.map eX,v.bd.2)} ao (dh v.bd.1)
def ii(id bn cap:Int):Sk:=⟨id,bc bn,cap,(0,0,0,1073741824),([],0),VY,lZ (bc bn),0,0⟩
end dZ

namespace eS
open bB bi f_ eA fZ eH dY fk dZ
abbrev N7:=Nat×Nat×Nat×Nat×Nat×Nat×Nat
def v8(x:N7)(m:Md):SP:=match x with
 |(b,n1,n2,n3,n4,n5,n6)=>ah b (ad.gO n1 n2 n3 n4 n5 n6 m)^ah n1 (ad.fY m.w)^ah n2 (ad.jo m.r)^ah n3 (ad.jh m.p)^ah n4 (ad.iz m.c)^ah n5 (ad.iT m.b)^ah n6 (ad.fX m.q)
instance(x:N7)(m:Md):qq (v8 x m):=by unfold v8;infer_instance
theorem uX(x:N7)(m:Md):bm (IJ (some ⟨x.1,0⟩)) (v8 x m) (λr=>bh (r=Ac m) (v8 x m)):=by
 obtain⟨b,n1,n2,n3,n4,n5,n6⟩:=x;exact Ig.sO b n1 n2 n3 n4 n5 n6 m
theorem L4(x:N7)(m:Md)(hm:fP m)(s:Sm)(hs:oX s)(tso:Int)(ht:U tso):bm (OK (some ⟨x.1,0⟩) s tso) (v8 x m) (λr=>bh (r=Ac (oP m s tso)) (v8 x (oP m s tso))):=by
 obtain⟨b,n1,n2,n3,n4,n5,n6⟩:=x;exact Ra.Qf b n1 n2 n3 n4 n5 n6 m hm s hs tso ht
theorem L0(n:Int):bm (Oh n) aT (λr=>ex λx:N7=>bh (r=some ⟨x.1,0⟩) (v8 x (lZ n))):=
 (Ig.jj n).le Le.rfl λ_ _ _ _ ⟨⟨b,n1,n2,n3,n4,n5,n6⟩,h1,h2⟩=>⟨(b,n1,n2,n3,n4,n5,n6),h1,h2⟩
abbrev sL(v:Sk)(pb pd ps pm:Nat):List Lf:=[.int .i64 v.id,.int .i64 v.bn,.int .i64 v.cap,.ptr (some ⟨pb,0⟩),.ptr (some ⟨pd,0⟩),.ptr (some ⟨ps,0⟩),.ptr (some ⟨pm,0⟩),.int .u64 v.out,.int .u64 v.nx]
def kg(p:Nat)(v:Sk):SP:=ex λx:Nat×Nat×Nat×N7=>ah p (sL v x.1 x.2.1 x.2.2.1 x.2.2.2.1)^ah x.1 (Ks.mk qm v.bf)^km x.2.1 v.bd^ah x.2.2.1 (Ks.mk m_ v.sp)^v8 x.2.2.2 v.md
instance(p:Nat)(v:Sk):qq (kg p v):=by unfold kg;infer_instance
section
variable {w0 w:World} {S0 R0:Nat→Prop} {F G:SP}
theorem _root_.Go.X.au.kg(h:au w0 S0 R0 w F)(p:Nat){v:Sk}[tk:mR eS.kg p F v G]:∃(pb pd ps:Nat) (x:N7),au w0 S0 R0 w (ah p (sL v pb pd ps x.1)^ah pb (Ks.mk qm v.bf)^km pd v.bd^ah ps (Ks.mk m_ v.sp)^v8 x v.md^G):=by
 obtain⟨x,h⟩:=(h.le tk.le).lX;exact⟨x.1,x.2.1,x.2.2.1,x.2.2.2,h.aG⟩
theorem _root_.Go.X.au.kP(h:au w0 S0 R0 w F)(p pb pd ps:Nat)(x:N7)(v:Sk)[tk:Take (ah p (sL v pb pd ps x.1)^ah pb (Ks.mk qm v.bf)^km pd v.bd^ah ps (Ks.mk m_ v.sp)^v8 x v.md) F G]:au w0 S0 R0 w (eS.kg p v^G):=
 au.s_ (f:=λx:Nat×Nat×Nat×N7=>ah p (sL v x.1 x.2.1 x.2.2.1 x.2.2.2.1)^ah x.1 (Ks.mk qm v.bf)^km x.2.1 v.bd^ah x.2.2.1 (Ks.mk m_ v.sp)^v8 x.2.2.2 v.md) (pb,pd,ps,x) (h.le tk.le)
end
theorem pR(p:Nat)(v:Sk)(hl:v.bd.1.length≤4294967296):bm (NR (some ⟨p,0⟩)) (kg p v) (λr=>bh (r=cK v) (kg p v)):=
 br λw0 S R h=>by
  refine ae (λc=>(by simp at c)) λ_=>?_;obtain⟨pb,pd,ps,x,h⟩:=h.kg p;refine ac (aj h rfl (af (eA.pR pd v.bd hl) h λr w h=>?_));obtain⟨hr,h⟩:=h.aB;rw[hr];exact au.aE rfl (h.kP p pb pd ps x v).aG
theorem mz(p pb pd ps:Nat)(x:N7)(v:Sk)(hl:v.bd.1.length≤4294967296):bm (NR (some ⟨p,0⟩)) (ah p (sL v pb pd ps x.1)^km pd v.bd) (λr=>bh (r=cK v) (ah p (sL v pb pd ps x.1)^km pd v.bd)):=
 br λw0 S R h=>by
  refine ae (λc=>(by simp at c)) λ_=>?_;refine ac (aj h rfl (af (eA.pR pd v.bd hl) h λr w h=>?_));obtain⟨hr,h⟩:=h.aB;rw[hr];exact au.aE rfl h.aG
theorem z3(p pb pd ps:Nat)(x:N7)(v:Sk)(hm:fP v.md):bm (II (some ⟨p,0⟩)) (ah p (sL v pb pd ps x.1)^v8 x v.md) (λr=>bh (r=bp v) (ah p (sL v pb pd ps x.1)^v8 x v.md)):=
 br λw0 S R h=>by
  refine ae (λc=>(by simp at c)) λ_=>?_;refine aH h λw h=>ac (ac (aj h rfl (aj h rfl (af (uX x v.md) h λr w h=>?_))));obtain⟨hr,h⟩:=h.aB;rw[hr];refine aI h rfl (af (xQ (Ac v.md).2.2.1 v.bn hm.aQ) h λr w h=>?_);obtain⟨hr,h⟩:=h.aB;rw[hr];exact au.aE rfl h.aG
theorem PN(p:Nat)(v:Sk):bm (Wv (some ⟨p,0⟩)) (kg p v) (λr=>bh (r=v.out) (kg p v)):=
 br λw0 S R h=>by
  refine ae (λc=>(by simp at c)) λ_=>?_;obtain⟨pb,pd,ps,x,h⟩:=h.kg p;refine ac (aj h rfl ?_);exact au.aE rfl (h.kP p pb pd ps x v).aG
theorem sD(p:Nat)(v:Sk):bm (Vs (some ⟨p,0⟩)) (kg p v) (λr=>bh (r=Ac v.md) (kg p v)):=
 br λw0 S R h=>by
  refine aA h λn w h=>ae (λc=>(by simp at c)) λ_=>?_;obtain⟨pb,pd,ps,x,h⟩:=h.kg p;refine ac (aj h rfl (af (uX x v.md) h λr w h=>?_));obtain⟨hr,h⟩:=h.aB;rw[hr];refine aw h (by rfl) λw h=>ar (b:=n) (x:=Ac v.md) h rfl ?_;exact au.aE rfl (h.kP p pb pd ps x v).aG
theorem G3(p:Nat)(v:Sk)(hb:qE v.bf):bm (Ww (some ⟨p,0⟩)) (kg p v) (λr=>bh (r=bW v.bf-bN v.bf) (kg p v)):=
 br λw0 S R h=>by
  refine ae (λc=>(by simp at c)) λ_=>?_;obtain⟨pb,pd,ps,x,h⟩:=h.kg p;refine ac (aj h rfl (af (rb pb v.bf hb) h λr w h=>?_));obtain⟨hr,h⟩:=h.aB;rw[hr];exact au.aE rfl (h.kP p pb pd ps x v).aG
theorem JR(p:Nat)(v:Sk)(hb:qE v.bf)(n:Int)(hn:n<9223372036854775808):bm (RJ (some ⟨p,0⟩) n) (kg p v) (λr=>bh (r=(eh v n).1) (kg p (eh v n).2)):=
 br λw0 S R h=>by
  refine ae (λc=>(by simp at c)) λ_=>?_;obtain⟨pb,pd,ps,x,h⟩:=h.kg p;refine ac (aj h rfl (af (Ff pb v.bf hb n hn) h λr w h=>?_));obtain⟨hr,h⟩:=h.aB;rw[hr];exact au.aE rfl (h.kP p pb pd ps x {v with bf:=(Ad v.bf n).2}).bk
theorem DE(p:Nat)(v:Sk)(ho:U v.out)(n:Int)(hn:n<9223372036854775808):bm (Oj (some ⟨p,0⟩) n) (kg p v) (λr=>bh (r=(b_ v n).1) (kg p (b_ v n).2)):=
 br λw0 S R h=>by
  unfold U at ho;obtain⟨pb,pd,ps,x,h⟩:=(h.le (aF _)).kg p;refine aK h (λ_=>ah p (sL v pb pd ps x.1)^ah pb (Ks.mk qm v.bf)^km pd v.bd^ah ps (Ks.mk m_ v.sp)^v8 x v.md) (λ_=>¬(n<1∨n>v.out)) (λ_ w hx h=>?_) ?_
  ·have e:b_ v n=(0,{v with out:=v.out-n}):=(by unfold b_;rw[ay hx]);have ew:IntKind.u64.wrap (v.out-IntKind.u64.wrap n)=v.out-n:=(by rw[wu (n:=n) (by omega) (by omega)];exact wu (by omega) (by omega));rw[e];refine ac (aj h rfl (ac ?_));rw[ew];refine az h p (sL {v with out:=v.out-n} pb pd ps x.1) rfl rfl rfl λw h=>?_;exact au.aE rfl (h.kP p pb pd ps x {v with out:=v.out-n}).bk
  ·have bad:∀{w:World},(n<1∨n>v.out)→au w0 S R w (ah p (sL v pb pd ps x.1)^ah pb (Ks.mk qm v.bf)^km pd v.bd^ah ps (Ks.mk m_ v.sp)^v8 x v.md^aT)→au w0 S R w (bh ((1:Int)=(b_ v n).1) (kg p (b_ v n).2)):=λ{w} c h=>by
    have e:b_ v n=(1,v):=(by unfold b_;rw[aC c]);rw[e];exact au.aE rfl (h.kP p pb pd ps x v).bk
   refine ae (λc=>(by simp at c)) λ_=>ae (λc=>?_) λc=>?_
   ·exact bad (.inl (bJ c)) h.aG
   ·have c:¬n<1:=bQ c;refine ac (aj h rfl (ae (λc2=>?_) λc2=>?_))
    ·have c2:IntKind.u64.wrap n>v.out:=bJ c2;rw[wu (n:=n) (by omega) (by omega)]at c2;exact bad (.inr c2) h.aG
    ·have c2:¬IntKind.u64.wrap n>v.out:=bQ c2;rw[wu (n:=n) (by omega) (by omega)]at c2;exact⟨by omega,h.aG⟩
end eS

namespace ki
open bB bi f_ eA fZ eH dY fk dZ eS
theorem Kg(b:Nat)(v:List Pc×Int):bm (SX (some ⟨b,0⟩)) (km b v) (λr=>bh (r=(v.1.length:Int)) (km b v)):=
 br λw0 S R h=>by
  refine ae (λc=>(by simp at c)) λ_=>?_;obtain⟨s,h⟩:=(h.le (aF _)).km b;have hs:=(h.rd (s:=s)).2;refine ac (aj h rfl ?_);refine au.aE ?_ (h.oy b s v.1 v.2).bk;show((s.len:Nat):Int)=_;rw[hs]
structure oM(v:Sk):Prop where
 bf:qE v.bf
 bl:v.bd.1.length≤4096
 sp:oY v.sp
 md:fP v.md
 bn:100≤v.bn∧v.bn≤9000
 cap:-9223372036854775808≤v.cap∧v.cap<9223372036854775808
 out:U v.out
 nx:U v.nx
 fl:U (cK v)
theorem nh(p:Nat)(v:Sk)(hv:oM v):bm (Sf (some ⟨p,0⟩)) (kg p v) (λr=>bh (r=(dI v).1) (kg p (dI v).2)):=
 br λw0 S R h=>by
  have hbl:v.bd.1.length≤4294967296:=by have:=hv.bl;omega
  have hts:=rY v.md.aQ v.bn hv.md.aQ.1;obtain⟨pb,pd,ps,x,h⟩:=(h.le (aF _)).kg p;refine ac (aj h rfl (af (Da pd v.bd hbl) h λr w h=>?_));obtain⟨hr,h⟩:=h.aB;rw[hr];refine aA h λn4 w h=>aw h (by rfl) λw h=>ac (aj h rfl (af (uX x v.md) h λr w h=>?_));obtain⟨hr,h⟩:=h.aB;rw[hr];refine aA h λn8 w h=>aw h (by rfl) λw h=>aH h λw h=>aj (x:=v.md.cv) h rfl (af (mz p pb pd ps x v hbl) h λr w h=>?_);obtain⟨hr,h⟩:=h.aB;rw[hr];refine aI h rfl ?_;have h:au w0 S R w (ah n8 (Ks.mk bC (Ac v.md))^ah p (sL v pb pd ps x.1)^ah pb (Ks.mk qm v.bf)^km pd v.bd^ah ps (Ks.mk m_ v.sp)^v8 x v.md):=h.aG;refine aK h (λ_=>ah n8 (Ks.mk bC (Ac v.md))^ah p (sL v pb pd ps x.1)^ah pb (Ks.mk qm v.bf)^km pd v.bd^ah ps (Ks.mk m_ v.sp)^v8 x v.md) (λy:Bool=>y=true↔(bx v.bd.1).2=false∧bW v.bf-bN v.bf=0) (λ(y:Bool) w hy h=>?_) ?_;rotate_left
  ·refine ae (λc=>?_) λc=>?_
   ·have c:(bx v.bd.1).2=false:=bV;refine ac (aj h rfl (af (rb pb v.bf hv.bf) h λr w h=>?_));obtain⟨hr,h⟩:=h.aB;rw[hr];refine⟨?_,h.aG⟩;show(bW v.bf-bN v.bf==0)=true↔_;rw[p_];exact⟨λe=>⟨c,e⟩,λe=>e.2⟩
   ·have c:(bx v.bd.1).2=true:=bV;exact⟨⟨λe=>(by cases e),λe=>(by rw[c]at e;cases e.1)⟩,h⟩
  ·refine ae (λc=>?_) λc=>?_
   ·have c:=hy.1 c;have e:dI v=(7,if cK v<v.md.cv then{v with sp:=nM v.sp (cK v)}else v):=(by unfold dI;rw[aC c]);rw[e];refine ae (λc2=>?_) λc2=>?_
    ·have c2:cK v<v.md.cv:=bJ c2;rw[aC c2];refine aH h λw h=>ac (aj h rfl (af (mz p pb pd ps x v hbl) h λr w h=>?_));obtain⟨hr,h⟩:=h.aB;rw[hr];refine aI h rfl (af (I9 ps v.sp hv.sp (cK v) hv.fl) h λ_ w h=>?_);exact au.aE rfl (h.kP p pb pd ps x {v with sp:=nM v.sp (cK v)}).bk
    ·have c2:¬cK v<v.md.cv:=bQ c2;rw[ay c2];exact au.aE rfl (h.kP p pb pd ps x v).bk
   ·have c1:¬((bx v.bd.1).2=false∧bW v.bf-bN v.bf=0):=λe=>by have:=hy.2 e;rw[c]at this;cases this
    refine aK h (λ_=>ah n8 (Ks.mk bC (Ac v.md))^ah p (sL v pb pd ps x.1)^ah pb (Ks.mk qm v.bf)^km pd v.bd^ah ps (Ks.mk m_ v.sp)^v8 x v.md) (λy:Bool=>y=true↔¬(cK v<v.md.cv∧v.out<gP v.md.aQ (bp v) v.cap)) (λ(y:Bool) w hy h=>?_) ?_
    ·refine ae (λc=>?_) λc=>?_
     ·have e:dI v=(5,v):=(by unfold dI;rw[ay c1,aC (hy.1 c)]);rw[e];exact au.aE rfl (h.kP p pb pd ps x v).bk
     ·have c2:¬¬(cK v<v.md.cv∧v.out<gP v.md.aQ (bp v) v.cap):=λe=>by have:=hy.2 e;rw[c]at this;cases this
      refine ae (λc3=>?_) λc3=>?_
      ·have c3:(bx v.bd.1).2=false:=(by simpa using c3);refine ac (aj h rfl (af (Kg pd v.bd) h λr w h=>?_));obtain⟨hr,h⟩:=h.aB;rw[hr];refine ae (λc4=>?_) λc4=>?_
       ·have c4:(v.bd.1.length:Int)≥4096:=bJ c4;have e:dI v=(5,v):=(by unfold dI;rw[ay c1,ay c2,aC ⟨c3,c4⟩]);rw[e];exact au.aE rfl (h.kP p pb pd ps x v).bk
       ·have c4:¬(v.bd.1.length:Int)≥4096:=bQ c4;have e:dI v=(0,v):=(by unfold dI;rw[ay c1,ay c2,ay (λe=>c4 e.2)]);rw[e];exact au.aE rfl (h.kP p pb pd ps x v).bk
      ·have c3:(bx v.bd.1).2=true:=(by simpa using c3);have e:dI v=(0,v):=(by unfold dI;rw[ay c1,ay c2,ay (λe=>by rw[c3]at e;cases e.1)]);rw[e];exact au.aE rfl (h.kP p pb pd ps x v).bk
    ·refine aH h λw h=>ae (λc=>?_) λc=>?_
     ·have c:¬cK v<v.md.cv:=bV;exact⟨⟨λ_ e=>c e.1,λ_=>rfl⟩,h⟩
     ·have c:cK v<v.md.cv:=bV;refine ac (aj (x:=v.md.aQ) h rfl (ac (aj h rfl (aj h rfl (af (z3 p pb pd ps x v hv.md) h λr w h=>?_)))));obtain⟨hr,h⟩:=h.aB;rw[hr];refine aI h rfl (aI h rfl (aI h rfl (af (IA v.md.aQ (bp v) v.cap hv.md.aQ ⟨by unfold bp;omega,hts.2⟩ hv.cap) h λr w h=>?_)));obtain⟨hr,h⟩:=h.aB;rw[hr];refine aI h rfl (af (fk.nh v.out (gP v.md.aQ (bp v) v.cap)) h λr w h=>?_);obtain⟨hr,h⟩:=h.aB;rw[hr];refine⟨?_,h.aG⟩;show(!decide (v.out<gP v.md.aQ (bp v) v.cap))=true↔_;simp[c]
end ki

namespace mi
open bB bi f_ eA fZ eH dY fk dZ eS ki
abbrev KS:Ks:=[.int .i64,.int .u64,.int .i64,.int .u64,.bool]
abbrev zS:List Lf:=[.int .i64 0,.int .u64 0,.int .i64 0,.int .u64 0,.bool false]
def TO(p n1 n14:Nat)(o:Int)(ag:Bool)(R:Rs.T [.agg KS,.lf (.int .i64)]→WP):WP:=
 bF<|
 deref (some ⟨p,0⟩) λq27=>
 ld [.int .u64] ⟨n14,0⟩ λ(x28:Int)=>
 ld [.int .u64] ⟨n14,1⟩ λ(x29:Int)=>
 ld [.int .u64] ⟨n14,0⟩ λ(x30:Int)=>
 deref (some ⟨p,0⟩) λq31=>
 ld [.int .i64] q27 λ(x32:Int)=>
 ld [.int .u64] ⟨q31.b,q31.o+8⟩ λ(x33:Int)=>
 new [.int .i64 (0:Int),.int .u64 (0:Int),.int .i64 (0:Int),.int .u64 (0:Int),.bool false] λn34=>
 co ⟨q31.b,q31.o+8⟩ (Ks.mk [.int .u64] x33)<|
 co q27 (Ks.mk [.int .i64] x32)<|
 co ⟨n14,0⟩ (Ks.mk [.int .u64] x30)<|
 co ⟨n14,1⟩ (Ks.mk [.int .u64] x29)<|
 co ⟨n14,0⟩ (Ks.mk [.int .u64] x28)<|
 st ⟨n34,0⟩ [.int .i64 x32,.int .u64 x28,.int .i64 (IntKind.i64.wrap (IntKind.u64.wrap (x29-x30))),.int .u64 (if x33>o then x33 else o),.bool ag]<|
 bF<|
 ld [.int .u64] ⟨n34,3⟩ λ(x35:Int)=>
 ld [.int .i64] ⟨n34,2⟩ λ(x36:Int)=>
 deref (some ⟨p,0⟩) λq37=>
 ld [.ptr] ⟨q37.b,q37.o+6⟩ λ(x38:Option Pt)=>
 call Tryz.prog ux [.lf (.ptr x38)] [.agg bC] λ(r39:eN)=>
 co ⟨n34,2⟩ (Ks.mk [.int .i64] x36)<|
 co ⟨n34,3⟩ (Ks.mk [.int .u64] x35)<|
 call Tryz.prog E6 [.lf (.int .i64 x36),.lf (.int .u64 r39.2.2.1)] [.lf (.int .u64)] λ(r40:Int)=>
 co ⟨n34,3⟩ (Ks.mk [.int .u64] x35)<|
 call Tryz.prog Il [.lf (.int .u64 x35),.lf (.int .u64 r40)] [.lf (.int .u64)] λ(r41:Int)=>
 deref (some ⟨p,0⟩) λq42=>
 st ⟨q42.b,q42.o+8⟩ [.int .u64 r41]<|
 bF<|
 deref (some ⟨p,0⟩) λq43=>
 ld [.int .i64] ⟨n34,2⟩ λ(x44:Int)=>
 ld [.int .u64] ⟨q43.b,q43.o+7⟩ λ(x45:Int)=>
 deref (some ⟨p,0⟩) λq46=>
 st ⟨q46.b,q46.o+7⟩ [.int .u64 (IntKind.u64.wrap (x45+(IntKind.u64.wrap x44)))]<|
 ld KS ⟨n34,0⟩ λ(x47:Ks.T KS)=>
 st ⟨n1,0⟩ (Ks.mk KS x47)<|
 ld KS ⟨n1,0⟩ λ(x48:Ks.T KS)=>
 R (x48,(0:Int))
theorem Q5{w0 w:World}{S0 R0:Nat→Prop}{G:SP}{R:Rs.T [.agg KS,.lf (.int .i64)]→WP}{p n1 n14 pb pd ps:Nat}{x:N7}{v:Sk}{ao a b:Int}{ag:Bool}(hm:fP v.md)(hn:U ao)(hnx:U v.nx)(hab:0≤b-a∧b-a≤65536)(ho:0≤v.out∧v.out+65536<18446744073709551616)
  (h:au w0 S0 R0 w (ah n1 zS^ah n14 [.int .u64 a,.int .u64 b]^(ah p (sL v pb pd ps x.1)^ah pb (Ks.mk qm v.bf)^km pd v.bd^ah ps (Ks.mk m_ v.sp)^v8 x v.md)^G))
  (k:∀w',au w0 S0 R0 w' (kg p (kH v (a,b) ag ao).2^G)→R ((kH v (a,b) ag ao).1,0) w'):TO p n1 n14 ao ag R w:=by
 unfold TO;have e1:IntKind.u64.wrap (b-a)=b-a:=wu (by omega) (by omega);have e2:IntKind.i64.wrap (b-a)=b-a:=wi (by omega) (by omega);have hst:U (if v.nx>ao then v.nx else ao):=by split;exact hnx;exact hn
 have hD:U (dJ (b-a) v.md.aQ):=om (by omega) hm.aQ;refine aH h λw h=>ac (aj h rfl (aj h rfl (aj h rfl (ac (aj h rfl (aj h rfl (aA h λn34 w h=>?_)))))));refine aI h rfl (aI h rfl (aI h rfl (aI h rfl (aI h rfl ?_))));rw[e1,e2];refine aw h (by rfl) λw h=>aH h λw h=>aj h rfl (aj h rfl (ac (aj h rfl (af (uX x v.md) h λr w h=>?_))));obtain⟨hr,h⟩:=h.aB;rw[hr];refine aI h rfl (aI h rfl (af (vU (b-a) v.md.aQ (by omega) hm.aQ) h λr w h=>?_));obtain⟨hr,h⟩:=h.aB;rw[hr];refine aI h rfl (af (eJ _ _ hst hD) h λr w h=>?_);obtain⟨hr,h⟩:=h.aB;rw[hr];refine ac (az h p (sL {v with nx:=bA (if v.nx>ao then v.nx else ao) (dJ (b-a) v.md.aQ)} pb pd ps x.1) rfl rfl rfl λw h=>?_);have e3:IntKind.u64.wrap (v.out+IntKind.u64.wrap (b-a))=v.out+(b-a):=by rw[e1];exact wu (by omega) (by omega)
 refine aH h λw h=>ac (aj h rfl (aj (x:=v.out) h rfl (ac ?_)));rw[e3];refine az h p (sL {v with nx:=bA (if v.nx>ao then v.nx else ao) (dJ (b-a) v.md.aQ),out:=v.out+(b-a)} pb pd ps x.1) rfl rfl rfl λw h=>?_;refine ar (b:=n34) (x:=(kH v (a,b) ag ao).1) h rfl (aw h (by rfl) λw h=>ar (b:=n1) (x:=(kH v (a,b) ag ao).1) h rfl ?_);have h2:au w0 S0 R0 w (kg p {v with nx:=bA (if v.nx>ao then v.nx else ao) (dJ (b-a) v.md.aQ),out:=v.out+(b-a)}^G):=(h.kP p pb pd ps x {v with nx:=bA (if v.nx>ao then v.nx else ao) (dJ (b-a) v.md.aQ),out:=v.out+(b-a)}).aG;exact k w h2
end mi

namespace nD
open bB bi f_ eA fZ eH dY fk dZ eS ki mi
abbrev KR:Ks:=[.int .u64,.int .u64]
theorem mN{A B:WP}{w:World}(h:A w)(k:B w):both A B w:=⟨h,k⟩
def Nr(p n1 n9 n14:Nat)(o:Int)(ag:Bool)(R:Rs.T [.agg KS,.lf (.int .i64)]→WP):WP:=
 join [] (λJ15=>
 aq (!ag) (
 bF<|
 deref (some ⟨p,0⟩) λq17=>
 ld [.ptr] ⟨q17.b,q17.o+3⟩ λ(x18:Option Pt)=>
 call Tryz.prog qo [.lf (.ptr (some ⟨p,0⟩))] [.lf (.int .i64)] λ(r19:Int)=>
 co ⟨q17.b,q17.o+3⟩ (Ks.mk [.ptr] x18)<|
 call Tryz.prog qT [.lf (.ptr x18),.lf (.int .i64 r19)] [.agg [.int .u64,.int .u64],.lf .bool] λ(r20:(Int×Int)×Bool)=>
 st ⟨n14,0⟩ (Ks.mk [.int .u64,.int .u64] r20.1)<|
 bF<|
 ld bZ ⟨n9,0⟩ λ(x21:lm)=>
 deref (some ⟨p,0⟩) λq22=>
 ld [.int .u64] ⟨n14,0⟩ λ(x23:Int)=>
 ld [.int .u64] ⟨n14,1⟩ λ(x24:Int)=>
 ld [.ptr] ⟨q22.b,q22.o+4⟩ λ(x25:Option Pt)=>
 call Tryz.prog tC [.lf (.ptr x25),.lf (.int .u64 x23),.lf (.int .u64 x24),.agg (Ks.mk bZ x21)] [.lf (.int .i64)] λ(r26:Int)=>
 J15 ())<|
 J15 ()) λ(y16:Unit)=>TO p n1 n14 o ag R
def Ri(p n1 n9:Nat)(o:Int)(R:Rs.T [.agg KS,.lf (.int .i64)]→WP):WP:=
 bF<|
 ld bZ ⟨n9,0⟩ λ(x10:lm)=>
 deref (some ⟨p,0⟩) λq11=>
 ld [.ptr] ⟨q11.b,q11.o+4⟩ λ(x12:Option Pt)=>
 both (
 call Tryz.prog mP [.lf (.ptr x12),.agg (Ks.mk bZ x10)] [.agg [.int .u64,.int .u64],.lf .bool] λ(r13:(Int×Int)×Bool)=>
 new [.int .u64 (0:Int),.int .u64 (0:Int)] λn14=>
 co ⟨q11.b,q11.o+4⟩ (Ks.mk [.ptr] x12)<|
 co ⟨n9,0⟩ (Ks.mk bZ x10)<|
 st ⟨n14,0⟩ (Ks.mk [.int .u64,.int .u64] r13.1)<|
 Nr p n1 n9 n14 o r13.2 R)<|
 new [.int .u64 (0:Int),.int .u64 (0:Int)] λn49=>
 co ⟨q11.b,q11.o+4⟩ (Ks.mk [.ptr] x12)<|
 co ⟨n9,0⟩ (Ks.mk bZ x10)<|
 call Tryz.prog mP [.lf (.ptr x12),.agg (Ks.mk bZ x10)] [.agg [.int .u64,.int .u64],.lf .bool] λ(r50:(Int×Int)×Bool)=>
 st ⟨n49,0⟩ (Ks.mk [.int .u64,.int .u64] r50.1)<|
 Nr p n1 n9 n49 o r50.2 R
theorem EK{b:Bf}(hb:qE b){m:Int}(hm:m≤65536):0≤(kM b m).1.1.2-(kM b m).1.1.1∧(kM b m).1.1.2-(kM b m).1.1.1≤65536:=by
 have:=hb.nw;unfold kM;split
 ·show 0≤bN b+min (bW b-bN b) m-bN b∧bN b+min (bW b-bN b) m-bN b≤65536;omega
 ·show(0:Int)≤0-0∧(0:Int)-0≤65536;omega
theorem Q6{w0 w:World}{S0 R0:Nat→Prop}{G:SP}{R:Rs.T [.agg KS,.lf (.int .i64)]→WP}{p n1 n9 n14 pb pd ps:Nat}{x:N7}{v:Sk}{ao a b:Int}{sn:BB}{ag:Bool}(hbf:qE v.bf)(hm:fP v.md)(hn:U ao)(hnx:U v.nx)(hab:ag=true→0≤b-a∧b-a≤65536)(ho:0≤v.out∧v.out+65536<18446744073709551616)
  (h:au w0 S0 R0 w (ah n1 zS^ah n9 (Ks.mk bZ sn)^ah n14 [.int .u64 a,.int .u64 b]^(ah p (sL v pb pd ps x.1)^ah pb (Ks.mk qm v.bf)^km pd v.bd^ah ps (Ks.mk m_ v.sp)^v8 x v.md)^G))
  (k1:ag=true→∀w',au w0 S0 R0 w' (kg p (kH v (a,b) true ao).2^G)→R ((kH v (a,b) true ao).1,0) w')
  (k2:ag=false→∀w',au w0 S0 R0 w' (kg p (kH {v with bf:=(kM v.bf (bp v)).2,bd:=(dP v.bd (kM v.bf (bp v)).1.1.1 (kM v.bf (bp v)).1.1.2 sn).2} (kM v.bf (bp v)).1.1 false ao).2^G)→R ((kH {v with bf:=(kM v.bf (bp v)).2,bd:=(dP v.bd (kM v.bf (bp v)).1.1.1 (kM v.bf (bp v)).1.1.2 sn).2} (kM v.bf (bp v)).1.1 false ao).1,0) w'):Nr p n1 n9 n14 ao ag R w:=by
 have hts:=rY v.md.aQ v.bn hm.aQ.1;unfold Nr;cases ag with
 |true=>
  refine aK h (λ_=>ah n1 zS^ah n9 (Ks.mk bZ sn)^ah n14 [.int .u64 a,.int .u64 b]^(ah p (sL v pb pd ps x.1)^ah pb (Ks.mk qm v.bf)^km pd v.bd^ah ps (Ks.mk m_ v.sp)^v8 x v.md)^G) (λ_=>True) (λ_ w _ h=>?_) ?_
  ·exact Q5 (G:=G) (pb:=pb) (pd:=pd) (ps:=ps) (x:=x) hm hn hnx (hab rfl) ho h.aG (k1 rfl)
  ·exact ae (λc=>by cases c) λ_=>⟨trivial,h⟩
 |false=>
  refine aK h (λ_=>ah n1 zS^ah n14 (Ks.mk KR (kM v.bf (bp v)).1.1)^(ah p (sL v pb pd ps x.1)^ah pb (Ks.mk qm (kM v.bf (bp v)).2)^km pd (dP v.bd (kM v.bf (bp v)).1.1.1 (kM v.bf (bp v)).1.1.2 sn).2^ah ps (Ks.mk m_ v.sp)^v8 x v.md)^G) (λ_=>True) (λ_ w _ h=>?_) ?_
  ·exact Q5 (G:=G) (v:={v with bf:=(kM v.bf (bp v)).2,bd:=(dP v.bd (kM v.bf (bp v)).1.1.1 (kM v.bf (bp v)).1.1.2 sn).2}) hm hn hnx (EK hbf hts.2) ho h (k2 rfl)
  ·refine ae (λ_=>?_) λc=>by cases c
   refine aH h λw h=>ac (aj h rfl (af (z3 p pb pd ps x v hm) h λr w h=>?_));obtain⟨hr,h⟩:=h.aB;rw[hr];refine aI h rfl (af (IC pb v.bf hbf (bp v) (by unfold bp;omega)) h λr w h=>?_);obtain⟨hr,h⟩:=h.aB;rw[hr];refine aw h (by rfl) λw h=>aH h λw h=>ar (b:=n9) (x:=sn) h rfl (ac (aj h rfl (aj h rfl (aj h rfl (af (eA.rT pd _ _ sn v.bd) h λr w h=>?_)))));obtain⟨hr,h⟩:=h.aB;exact⟨trivial,h.aG⟩
def N0(v:Sk)(sn:BB)(ao:Int):Sg×Sk:=
 if(bx v.bd.1).2 then kH {v with bd:=(dw v.bd.1 sn,v.bd.2)} (bx v.bd.1).1 true ao
 else kH {v with bf:=(kM v.bf (bp v)).2,bd:=(dP v.bd (kM v.bf (bp v)).1.1.1 (kM v.bf (bp v)).1.1.2 sn).2} (kM v.bf (bp v)).1.1 false ao
theorem Pq(v:Sk)(ao:Int):uo v ao=N0 (eg v ao) (jm v.sp ao (cK v)).1 ao:=rfl
theorem J_{l:List Pc}(s:BB)(h:(bx l).2=false):dw l s=l:=by
 unfold bx at h;unfold dw;split at h
 ·split at h
  ·rename_i hc;exact aC hc
  ·cases h
 ·rfl
theorem V_{w0 w:World}{S0 R0:Nat→Prop}{G:SP}{R:Rs.T [.agg KS,.lf (.int .i64)]→WP}{p n1 n9 pb pd ps:Nat}{x:N7}{v:Sk}{ao:Int}{sn:BB}(hbf:qE v.bf)(hbl:v.bd.1.length≤4294967296)(hm:fP v.md)(hn:U ao)(hnx:U v.nx)(hab:(bx v.bd.1).2=true→0≤(bx v.bd.1).1.2-(bx v.bd.1).1.1∧(bx v.bd.1).1.2-(bx v.bd.1).1.1≤65536)(ho:0≤v.out∧v.out+65536<18446744073709551616)
  (h:au w0 S0 R0 w (ah n1 zS^ah n9 (Ks.mk bZ sn)^(ah p (sL v pb pd ps x.1)^ah pb (Ks.mk qm v.bf)^km pd v.bd^ah ps (Ks.mk m_ v.sp)^v8 x v.md)^G))
  (k:∀w',au w0 S0 R0 w' (kg p (N0 v sn ao).2^G)→R ((N0 v sn ao).1,0) w'):Ri p n1 n9 ao R w:=by
 have t1:∀{w:World} {n14:Nat},au w0 S0 R0 w (ah n1 zS^ah n9 (Ks.mk bZ sn)^ah n14 (Ks.mk KR (bx v.bd.1).1)^(ah p (sL v pb pd ps x.1)^ah pb (Ks.mk qm v.bf)^km pd (dw v.bd.1 sn,v.bd.2)^ah ps (Ks.mk m_ v.sp)^v8 x v.md)^G)→Nr p n1 n9 n14 ao (bx v.bd.1).2 R w:=by
  intro w n14 h;cases hl:(bx v.bd.1).2 with
  |true=>
   have e:N0 v sn ao=kH {v with bd:=(dw v.bd.1 sn,v.bd.2)} (bx v.bd.1).1 true ao:=(by unfold N0;rw[aC hl]);rw[e]at k;exact Q6 (G:=G) (v:={v with bd:=(dw v.bd.1 sn,v.bd.2)}) (pb:=pb) (pd:=pd) (ps:=ps) (x:=x) (sn:=sn) hbf hm hn hnx (λ_=>hab hl) ho h (λ_=>k) (λc=>by cases c)
  |false=>
   have e:N0 v sn ao=kH {v with bf:=(kM v.bf (bp v)).2,bd:=(dP v.bd (kM v.bf (bp v)).1.1.1 (kM v.bf (bp v)).1.1.2 sn).2} (kM v.bf (bp v)).1.1 false ao:=(by unfold N0;rw[ay (by rw[hl];intro c;cases c)]);rw[e]at k;rw[J_ sn hl]at h;exact Q6 (G:=G) (v:=v) (pb:=pb) (pd:=pd) (ps:=ps) (x:=x) (sn:=sn) hbf hm hn hnx (λc=>by cases c) ho h (λc=>by cases c) (λ_=>k)
 unfold Ri;refine aH h λw h=>ar (b:=n9) (x:=sn) h rfl (ac (aj h rfl (mN ?_ ?_)))
 ·refine af (AB pd sn v.bd hbl) h λr w h=>?_;obtain⟨hr,h⟩:=h.aB;rw[hr];refine aA h λn14 w h=>aI h rfl (aJ (b:=n9) h (aw h (by rfl) λw h=>?_));exact t1 h.aG
 ·refine aA h λn14 w h=>aI h rfl (aJ (b:=n9) h (af (AB pd sn v.bd hbl) h λr w h=>?_));obtain⟨hr,h⟩:=h.aB;rw[hr];refine aw h (by rfl) λw h=>?_;exact t1 h.aG
end nD

namespace nF
open bB bi f_ eA fZ eH dY fk dZ eS ki mi nD
def qF(l:List Pc):Prop:=(bx l).2=true→0≤(bx l).1.2-(bx l).1.1∧(bx l).1.2-(bx l).1.1≤65536
theorem Ke(aQ tso most:Int)(hr:U aQ)(ht:tso≤65536):gP aQ tso most≤18014398509481984:=by
 unfold U at hr;unfold gP jg;split<;>split<;>omega
theorem B6{v:Sk}(hr:U v.md.aQ)(h:(dI v).1=0):v.out<18014398509481984∧(dI v).2=v:=by
 have hb:=Ke v.md.aQ (bp v) v.cap hr (rY v.md.aQ v.bn hr.1).2;unfold dI at h⊢;by_cases c1:(bx v.bd.1).2=false∧bW v.bf-bN v.bf=0
 ·rw[aC c1]at h;cases h
 ·rw[ay c1]at h⊢;by_cases c2:¬(cK v<v.md.cv∧v.out<gP v.md.aQ (bp v) v.cap)
  ·rw[aC c2]at h;cases h
  ·rw[ay c2]at h⊢;have c2:=Cn.1 c2;refine⟨by omega,?_⟩;split<;>rfl
theorem Lg(p:Nat)(v:Sk)(hv:oM v)(hL:qF v.bd.1)(ao:Int)(hn:U ao):bm (RM (some ⟨p,0⟩) ao) (kg p v) (λr=>bh (r=(bY v ao).1) (kg p (bY v ao).2)):=
 br λw0 S R h=>by
  have hbl:v.bd.1.length≤4294967296:=by have:=hv.bl;omega
  refine aA h λn1 w h=>ae (λc=>(by simp at c)) λ_=>af (ki.nh p v hv) h λr w h=>?_;obtain⟨hr,h⟩:=h.aB;rw[hr];refine ae (λc=>?_) λc=>?_
  ·have c:(dI v).1≠0:=bV;have e:bY v ao=((PH,(dI v).1),(dI v).2):=(by unfold bY;rw[aC c]);rw[e];refine aw h (by rfl) λw h=>ar (b:=n1) (x:=PH) h rfl ?_;have h:au w0 S R w (kg p (dI v).2^ah n1 zS):=h.aG;exact au.aE rfl h.bk
  ·have c:(dI v).1=0:=bV;have e:bY v ao=(((uo v ao).1,0),(uo v ao).2):=(by unfold bY;rw[ay (by rw[c];exact λe=>e rfl)]);obtain⟨ho,e2⟩:=B6 hv.md.aQ c;rw[e2]at h;rw[e,Pq];have ho2:0≤v.out∧v.out+65536<18446744073709551616:=⟨hv.out.1,by omega⟩;have t1:∀{w:World} {n9 pb pd ps:Nat} {x:N7},au w0 S R w (ah n1 zS^ah n9 (Ks.mk bZ (jm v.sp ao (cK v)).1)^(ah p (sL v pb pd ps x.1)^ah pb (Ks.mk qm v.bf)^km pd v.bd^ah ps (Ks.mk m_ (jm v.sp ao (cK v)).2)^v8 x v.md)^aT)→Ri p n1 n9 ao (λr w=>au w0 S R w (bh (r=((N0 (eg v ao) (jm v.sp ao (cK v)).1 ao).1,0)) (kg p (N0 (eg v ao) (jm v.sp ao (cK v)).1 ao).2))) w:=by
    intro w n9 pb pd ps x h;exact V_ (G:=aT) (v:=eg v ao) (pb:=pb) (pd:=pd) (ps:=ps) (x:=x) (sn:=(jm v.sp ao (cK v)).1) hv.bf hbl hv.md hn hv.nx hL ho2 h (λw h=>au.aE rfl h.bk)
   obtain⟨pb,pd,ps,x,h⟩:=(h.le (aF _)).kg p;refine aH h λw h=>ac (aj h rfl (mN ?_ ?_))
   ·refine af (mz p pb pd ps x v hbl) h λr w h=>?_;obtain⟨hr,h⟩:=h.aB;rw[hr];refine aI h rfl (mN ?_ ?_)
    ·refine af (fk.rT ps v.sp ao (cK v)) h λr w h=>?_;obtain⟨hr,h⟩:=h.aB;rw[hr];refine aA h λn9 w h=>aI h rfl (aw h (by rfl) λw h=>?_);exact t1 (pb:=pb) (pd:=pd) (ps:=ps) (x:=x) h.aG
    ·refine aA h λn9 w h=>aI h rfl (af (fk.rT ps v.sp ao (cK v)) h λr w h=>?_);obtain⟨hr,h⟩:=h.aB;rw[hr];refine aw h (by rfl) λw h=>?_;exact t1 (pb:=pb) (pd:=pd) (ps:=ps) (x:=x) h.aG
   ·refine aA h λn9 w h=>aI h rfl (af (mz p pb pd ps x v hbl) h λr w h=>?_);obtain⟨hr,h⟩:=h.aB;rw[hr];refine aI h rfl (af (fk.rT ps v.sp ao (cK v)) h λr w h=>?_);obtain⟨hr,h⟩:=h.aB;rw[hr];refine aw h (by rfl) λw h=>?_;exact t1 (pb:=pb) (pd:=pd) (ps:=ps) (x:=x) h.aG
end nF

namespace lj
open bB bi dY fk
def N2(s:Sp)(sn:Sn):Bool:=!pH s||decide (sn.2.1≥od s)
def xp(s:Sp)(ao n:Int)(sn:Sn):Sp:=
 if N2 s sn then(bA (pD s) n,ao,sn.1,(if bA (pD s) n>pL s then 0 else pL s),true,bA (pG s) n,sn.2.1,sn.2.2.1,sn.2.2.2.2,dF sn.1 sn.2.2.2.1,dF ao sn.1)
 else(bA (pD s) n,ao,pF s,(if bA (pD s) n>pL s then 0 else pL s),true,bA (pG s) n,od s,mW s,nr s,mA s,mV s)
structure Dc(s:Sn):Prop where
 a:U s.1
 b:U s.2.1
 c:U s.2.2.1
 d:U s.2.2.2.1
theorem Iq(p:Nat)(s:Sp)(hs:oY s)(ao n:Int)(hn:U ao)(hU:U n)(sn:Sn)(hsn:Dc sn):bm (Sd (some ⟨p,0⟩) ao n sn) (ah p (Ks.mk m_ s)) (λ_=>ah p (Ks.mk m_ (xp s ao n sn))):=
 br λw0 S R h=>by
  refine aA h λn1 w h=>ae (λc=>(by simp at c)) λ_=>?_;refine ac (aj h rfl (af (eJ (pD s) n hs.d hU) h λr w h=>?_));obtain⟨hr,h⟩:=h.aB;rw[hr];obtain⟨l2,hl2⟩:∃l2,l2=if bA (pD s) n>pL s then 0 else pL s:=⟨_,rfl⟩
  refine ac (az h p (Ks.mk m_ (bA (pD s) n,pT s,pF s,pL s,pH s,pG s,od s,mW s,nr s,mA s,mV s)) rfl rfl rfl λw h=>?_);refine ac (az h p (Ks.mk m_ (bA (pD s) n,ao,pF s,pL s,pH s,pG s,od s,mW s,nr s,mA s,mV s)) rfl rfl rfl λw h=>?_);refine aK h (λ_=>ah n1 (Ks.mk WV sn)^ah p (Ks.mk m_ (bA (pD s) n,ao,pF s,l2,pH s,pG s,od s,mW s,nr s,mA s,mV s))) (λ_=>True) (λ_ w _ h=>?_) ?_;rotate_left
  ·refine aH h λw h=>ac (ac (aj h rfl (aj h rfl (ae (λc=>?_) λc=>?_))))
   ·have c:bA (pD s) n>pL s:=bJ c;rw[aC c]at hl2;rw[hl2];refine ac (az h p (Ks.mk m_ (bA (pD s) n,ao,pF s,0,pH s,pG s,od s,mW s,nr s,mA s,mV s)) rfl rfl rfl λw h=>?_);exact⟨trivial,h.aG⟩
   ·have c:¬bA (pD s) n>pL s:=bQ c;rw[ay c]at hl2;rw[hl2];exact⟨trivial,h.aG⟩
  ·refine ac (aj h rfl (af (eJ (pG s) n hs.g hU) h λr w h=>?_));obtain⟨hr,h⟩:=h.aB;rw[hr];refine ac (az h p (Ks.mk m_ (bA (pD s) n,ao,pF s,l2,pH s,bA (pG s) n,od s,mW s,nr s,mA s,mV s)) rfl rfl rfl λw h=>?_);obtain⟨e,he⟩:∃e:Sp,e=xp s ao n sn:=⟨_,rfl⟩;refine aK h (λ_=>ah n1 (Ks.mk WV sn)^ah p (Ks.mk m_ (pD e,pT e,pF e,pL e,pH s,pG e,od e,mW e,nr e,mA e,mV e))) (λ_=>True) (λ_ w _ h=>?_) ?_
   ·refine ac (az h p (Ks.mk m_ (pD e,pT e,pF e,pL e,true,pG e,od e,mW e,nr e,mA e,mV e)) rfl rfl rfl λw h=>?_);have e2:xp s ao n sn=(pD e,pT e,pF e,pL e,true,pG e,od e,mW e,nr e,mA e,mV e):=by rw[he];unfold xp;split<;>rfl
    rw[e2];exact h.aG
   ·refine aK h (λ_=>ah n1 (Ks.mk WV sn)^ah p (Ks.mk m_ (bA (pD s) n,ao,pF s,l2,pH s,bA (pG s) n,od s,mW s,nr s,mA s,mV s))) (λy:Bool=>y=N2 s sn) (λ(y:Bool) w hy h=>?_) ?_
    ·rw[hy];refine ae (λc=>?_) λc=>?_
     ·have e2:e=(bA (pD s) n,ao,sn.1,l2,true,bA (pG s) n,sn.2.1,sn.2.2.1,sn.2.2.2.2,dF sn.1 sn.2.2.2.1,dF ao sn.1):=(by rw[he,hl2];unfold xp;rw[aC c]);rw[e2];refine aH h λw h=>aj h rfl (aj h rfl (aj h rfl ?_));refine ac (az h p (Ks.mk m_ (bA (pD s) n,ao,pF s,l2,pH s,bA (pG s) n,sn.2.1,mW s,nr s,mA s,mV s)) rfl rfl rfl λw h=>?_);refine aI h rfl (aI h rfl ?_);refine ac (az h p (Ks.mk m_ (bA (pD s) n,ao,pF s,l2,pH s,bA (pG s) n,sn.2.1,sn.2.2.1,nr s,mA s,mV s)) rfl rfl rfl λw h=>?_);refine aI h rfl ?_;refine ac (az h p (Ks.mk m_ (bA (pD s) n,ao,pF s,l2,pH s,bA (pG s) n,sn.2.1,sn.2.2.1,sn.2.2.2.2,mA s,mV s)) rfl rfl rfl λw h=>?_);refine aH h λw h=>aj h rfl (aj h rfl (aj h rfl (af (iN sn.1 sn.2.2.2.1 hsn.a hsn.d) h λr w h=>?_)));obtain⟨hr,h⟩:=h.aB;rw[hr];refine aI h rfl (af (iN ao sn.1 hn hsn.a) h λr w h=>?_);obtain⟨hr,h⟩:=h.aB;rw[hr];refine ac (az h p (Ks.mk m_ (bA (pD s) n,ao,pF s,l2,pH s,bA (pG s) n,sn.2.1,sn.2.2.1,sn.2.2.2.2,dF sn.1 sn.2.2.2.1,mV s)) rfl rfl rfl λw h=>?_);refine ac (az h p (Ks.mk m_ (bA (pD s) n,ao,pF s,l2,pH s,bA (pG s) n,sn.2.1,sn.2.2.1,sn.2.2.2.2,dF sn.1 sn.2.2.2.1,dF ao sn.1)) rfl rfl rfl λw h=>?_);refine aj h rfl ?_;refine ac (az h p (Ks.mk m_ (bA (pD s) n,ao,sn.1,l2,pH s,bA (pG s) n,sn.2.1,sn.2.2.1,sn.2.2.2.2,dF sn.1 sn.2.2.2.1,dF ao sn.1)) rfl rfl rfl λw h=>?_);exact⟨trivial,h.aG⟩
     ·have e2:e=(bA (pD s) n,ao,pF s,l2,true,bA (pG s) n,od s,mW s,nr s,mA s,mV s):=(by rw[he,hl2];unfold xp;rw[ay (by rw[c];intro c;cases c)]);rw[e2];exact⟨trivial,h.aG⟩
    ·refine aH h λw h=>ac (aj h rfl (ae (λc=>?_) λc=>?_))
     ·have c:pH s=false:=bV;exact⟨by unfold N2;rw[c];rfl,h.aG⟩
     ·have c:pH s=true:=bV;refine aj h rfl (ac (aj h rfl ?_));exact⟨by unfold N2;rw[c];rfl,h.aG⟩
end lj

namespace qX
open bB bi dY fk lj
abbrev zSa:List Lf:=[.int .u64 0,.int .u64 0,.int .u64 0,.int .u64 0,.int .u64 0,.int .u64 0,.int .u64 0,.int .u64 0,.bool false]
theorem Nt(p:Nat)(s:Sp)(hs:oY s)(ao be flight:Int)(hn:U ao):bm (SS (some ⟨p,0⟩) ao be flight) (ah p (Ks.mk m_ s)) (λr=>bh (r=(fN s ao be flight).1) (ah p (Ks.mk m_ (fN s ao be flight).2))):=
 br λw0 S R h=>by
  refine aA h λn1 w h=>ae (λc=>(by simp at c)) λ_=>ac (aj (x:=pD s) h rfl (aA h λn5 w h=>aw h (by rfl) λw h=>?_));obtain⟨e,he⟩:∃e,e=(fN s ao be flight).1:=⟨_,rfl⟩;refine aK h (λ_=>ah n1 zSa^ah p (Ks.mk m_ s)^ah n5 (Ks.mk Rb e)) (λ_=>True) (λ_ w _ h=>?_) ?_
  ·refine ac (az h p (Ks.mk m_ (pD s,pT s,pF s,pL s,false,0,0,0,false,0,0)) rfl rfl rfl λw h=>ar (b:=n5) (x:=e) h rfl (aw h (by rfl) λw h=>ar (b:=n1) (x:=e) h rfl ?_));rw[←he,show(fN s ao be flight).2=(pD s,pT s,pF s,pL s,false,0,0,0,false,0,0)from rfl];have h:au w0 S R w (ah p (Ks.mk m_ (pD s,pT s,pF s,pL s,false,0,0,0,false,0,0))^ah n5 (Ks.mk Rb e)):=h.aG;exact au.aE rfl h.bk
  ·refine ac (aj (x:=(pH s,pG s,od s,mW s,nr s,mA s,mV s)) h rfl (aA h λn10 w h=>aw h (by rfl) λw h=>aj (x:=pH s) h rfl (ae (λc=>?_) λc=>?_)))
   ·have e2:e=(ao,pD s,od s,jg (mA s) (dF ao (mW s)),mV s,pG s,be,flight,nr s):=(by rw[he];unfold fN;rw[aC c]);refine aH h λw h=>aj (x:=pG s) h rfl (aj (x:=od s) h rfl (aj (x:=nr s) h rfl (aj (x:=mV s) h rfl ?_)));refine az h n5 (Ks.mk Rb (ao,pD s,0,0,0,pG s,be,flight,false)) rfl rfl rfl λw h=>?_;refine aI h rfl (aI h rfl (aI h rfl ?_));refine az h n5 (Ks.mk Rb (ao,pD s,od s,0,0,pG s,be,flight,false)) rfl rfl rfl λw h=>?_;refine aI h rfl (aI h rfl ?_);refine az h n5 (Ks.mk Rb (ao,pD s,od s,0,0,pG s,be,flight,nr s)) rfl rfl rfl λw h=>?_;refine aI h rfl ?_;refine az h n5 (Ks.mk Rb (ao,pD s,od s,0,mV s,pG s,be,flight,nr s)) rfl rfl rfl λw h=>?_;refine aH h λw h=>aj (x:=mA s) h rfl (aj (x:=mW s) h rfl (af (iN ao (mW s) hn hs.pt) h λr w h=>?_));obtain⟨hr,h⟩:=h.aB;rw[hr];refine aI h rfl (aA h λn19 w h=>?_);have h:=h.cT n19 KU [mA s,dF ao (mW s)] rfl (by simp);have h:au _ _ _ _ (aP ⟨some ⟨n19,0⟩,2,2⟩ KU [mA s,dF ao (mW s)]^_):=h;refine bI (A:=aT) (Q:=ba ⟨some ⟨n19,0⟩,2,2⟩ KU [mA s,dF ao (mW s)]) (DY ⟨some ⟨n19,0⟩,2,2⟩ (mA s) (dF ao (mW s))) h λr w h=>?_;obtain⟨hr,h⟩:=h.aB;rw[hr];rw[e2];refine az h n5 (Ks.mk Rb (ao,pD s,od s,jg (mA s) (dF ao (mW s)),mV s,pG s,be,flight,nr s)) rfl rfl rfl λw h=>?_;exact⟨trivial,h.aG⟩
   ·have e2:e=(ao,pD s,0,0,0,0,be,flight,false):=(by rw[he];unfold fN;rw[ay (by rw[c];intro c;cases c)]);rw[e2];have h:au w0 S R w (ah n1 zSa^ah p (Ks.mk m_ s)^ah n5 [.int .u64 ao,.int .u64 (pD s),.int .u64 0,.int .u64 0,.int .u64 0,.int .u64 0,.int .u64 be,.int .u64 flight,.bool false]):=h.aG;exact⟨trivial,h⟩
end qX

namespace mj
open bB bi f_ eA fZ eH dY fk dZ eS ki mi nD nF lj qX
theorem xO{s:Sp}(hs:oY s){ao be flight:Int}(hn:U ao)(hl:U be)(hf:U flight):oX (fN s ao be flight).1:=by
 have h1:=mS hn hs.pt;have h2:=hs.si;have h3:U (jg (mA s) (dF ao (mW s))):=by
  unfold jg;repeat' split
  all_goals first|exact h1|exact h2|exact aX 0
 unfold fN;split
 ·exact⟨hn,hs.d,hs.pd,h3,hs.ai,hs.g,hl,hf⟩
 ·exact⟨hn,hs.d,aX 0,aX 0,aX 0,aX 0,hl,hf⟩
theorem A3(p:Nat)(v:Sk)(hv:oM v)(ao be:Int)(hn:U ao)(hl:U be):bm (OB (some ⟨p,0⟩) ao be) (kg p v) (λ_=>kg p (jz v ao be)):=
 br λw0 S R h=>by
  have hbl:v.bd.1.length≤4294967296:=by have:=hv.bl;omega
  have hts:=rY v.md.aQ v.bn hv.md.aQ.1;have ew:IntKind.u64.wrap (bp v)=bp v:=wu (by unfold bp;omega) (by unfold bp;omega);obtain⟨pb,pd,ps,x,h⟩:=(h.le (aF _)).kg p;refine aH h λw h=>ac (ac (aj h rfl (aj h rfl (af (mz p pb pd ps x v hbl) h λr w h=>?_))));obtain⟨hr,h⟩:=h.aB;rw[hr];refine aI h rfl (aI h rfl (af (Nt ps v.sp hv.sp ao be (cK v) hn) h λr w h=>?_));obtain⟨hr,h⟩:=h.aB;rw[hr];refine aI h rfl (af (z3 p pb pd ps x v hv.md) h λr w h=>?_);obtain⟨hr,h⟩:=h.aB;rw[hr];refine aI h rfl ?_;rw[ew];refine af (L4 x v.md hv.md (fN v.sp ao be (cK v)).1 (xO hv.sp hn hl hv.fl) (bp v) ⟨by unfold bp;omega,by unfold bp;omega⟩) h λr w h=>?_;obtain⟨hr,h⟩:=h.aB;rw[show jz v ao be={v with sp:=(fN v.sp ao be (cK v)).2,md:=oP v.md (fN v.sp ao be (cK v)).1 (bp v)}from rfl];exact(h.kP p pb pd ps x {v with sp:=(fN v.sp ao be (cK v)).2,md:=oP v.md (fN v.sp ao be (cK v)).1 (bp v)}).bk
theorem oM.xr{v:Sk}(hv:oM v):oM {v with bd:=(v.bd.1.map eX,v.bd.2)}:=
 {hv with bl:=(by show(v.bd.1.map eX).length≤4096;rw[kT];exact hv.bl),fl:=(by show U (dh (v.bd.1.map eX));rw[Ja];exact aX 0)}
theorem JK(p:Nat)(v:Sk)(hv:oM v)(ao:Int)(hn:U ao):bm (RL (some ⟨p,0⟩) ao) (kg p v) (λr=>bh (r=0) (kg p (ie v ao))):=
 br λw0 S R h=>by
  have hbl:v.bd.1.length≤4294967296:=by have:=hv.bl;omega
  refine ae (λc=>(by simp at c)) λ_=>?_;obtain⟨pb,pd,ps,x,h⟩:=(h.le (aF _)).kg p;refine ac (aj h rfl (af (eA.LR pd v.bd hbl) h λr w h=>?_));obtain⟨hr,h⟩:=h.aB;rw[hr];have h:au w0 S R w (kg p {v with bd:=(v.bd.1.map eX,v.bd.2)}^aT):=(h.kP p pb pd ps x {v with bd:=(v.bd.1.map eX,v.bd.2)}).aG;refine af (A3 p {v with bd:=(v.bd.1.map eX,v.bd.2)} (oM.xr hv) ao (dh v.bd.1) hn hv.fl) h λ_ w h=>?_;exact au.aE rfl h.bk
end mj

namespace wS
open bB bi f_ eA fZ eH dY fk dZ eS ki mi nD nF lj qX mj
abbrev Wj:Ks:=[.int .i64,.int .i64,.int .i64,.int .i64,.int .u64,.int .u64,.bool,.int .i64,.int .i64]
theorem Ns(id:Int)(c:Ks.T Wj):bm (XO id c) aT (λr=>ex λp:Nat=>bh (r=some ⟨p,0⟩) (kg p (ii id c.2.2.2.2.2.2.2.2 c.2.2.2.2.2.2.2.1))):=
 br λw0 S R h=>by
  obtain⟨m,hm⟩:∃m,m=bc c.2.2.2.2.2.2.2.2:=⟨_,rfl⟩;refine aA h λn1 w h=>aj (x:=c.2.2.2.2.2.2.2.2) h rfl (aH h λw h=>aj (x:=c.2.2.2.2.2.2.2.1) h rfl (af (dY.yd 1073741824) h λr w h=>?_));obtain⟨pb,h⟩:=h.lX;obtain⟨hr,h⟩:=h.aB;rw[hr];have h:au w0 S R w (ah pb (Ks.mk qm (0,0,0,1073741824))^_):=h;refine aI h rfl (af eA.jj h λr w h=>?_);obtain⟨pd,h⟩:=h.lX;obtain⟨hr,h⟩:=h.aB;rw[hr];refine aI h rfl (af fk.jj h λr w h=>?_);obtain⟨ps,h⟩:=h.lX;obtain⟨hr,h⟩:=h.aB;rw[hr];have hr2:100≤bc c.2.2.2.2.2.2.2.2∧bc c.2.2.2.2.2.2.2.2≤9000:=by
   unfold bc;repeat' split
   all_goals omega
  have ew:IntKind.u64.wrap (if(9000:Int)<(if(100:Int)>c.2.2.2.2.2.2.2.2 then(100:Int)else c.2.2.2.2.2.2.2.2)then(9000:Int)else(if(100:Int)>c.2.2.2.2.2.2.2.2 then(100:Int)else c.2.2.2.2.2.2.2.2))=bc c.2.2.2.2.2.2.2.2:=wu (by unfold bc at hr2;omega) (by unfold bc at hr2;omega);refine aI h rfl ?_;rw[ew];refine af (L0 (bc c.2.2.2.2.2.2.2.2)) h λr w h=>?_;obtain⟨x,h⟩:=h.lX;obtain⟨hr,h⟩:=h.aB;rw[hr];refine aI h rfl (aA h λn8 w h=>?_);have h:au w0 S R w (ah n8 [.int .i64 id,.int .i64 (bc c.2.2.2.2.2.2.2.2),.int .i64 c.2.2.2.2.2.2.2.1,.ptr (some ⟨pb,0⟩),.ptr (some ⟨pd,0⟩),.ptr (some ⟨ps,0⟩),.ptr (some ⟨x.1,0⟩),.int .u64 0,.int .u64 0]^_):=h;rw[show ii id c.2.2.2.2.2.2.2.2 c.2.2.2.2.2.2.2.1=⟨id,bc c.2.2.2.2.2.2.2.2,c.2.2.2.2.2.2.2.1,(0,0,0,1073741824),([],0),VY,lZ (bc c.2.2.2.2.2.2.2.2),0,0⟩from rfl];exact au.gX n8 (au.aE rfl (h.kP n8 pb pd ps x ⟨id,bc c.2.2.2.2.2.2.2.2,c.2.2.2.2.2.2.2.1,(0,0,0,1073741824),([],0),VY,lZ (bc c.2.2.2.2.2.2.2.2),0,0⟩).bk)
end wS

namespace ml
open bB bi f_ eA fZ eH dY fk dZ eS ki mi nD nF lj qX mj
abbrev QW(q:Pc):BB:=(q.2.2.1,q.2.2.2.1,q.2.2.2.2.1,q.2.2.2.2.2.1,q.2.2.2.2.2.2.1)
abbrev rV(ao:Int)(s:Sp)(q:Pc):Sp:=xp s ao (IntKind.u64.wrap (q.2.1-q.1)) (QW q)
def qG(ao:Int)(s:Sp)(l:List Pc):Sp:=l.foldl (rV ao) s
def Bz(l:List Pc):Prop:=∀q∈l,Dc (QW q)
theorem VD(l:List Pc):U (dh l):=by
 have h:∀(l:List Pc) (n:Int),U n→U (l.foldl tJ n):=by
  intro l
  induction l with
  |nil=>intro n h;exact h
  |cons p l ih=>intro n h;exact ih _ (by unfold tJ;split;exact tI _;exact h)
 exact h l 0 (aX 0)
theorem yT:∀l:List Pc,U (cm l).2.1
 |[]=>aX 0
 |p::l=>by
  show U (if vZ p (cm l).2.2 then IntKind.u64.wrap ((cm l).2.1+IntKind.u64.wrap (p.2.1-p.1))else(cm l).2.1);split
  ·exact tI _
  ·exact yT l
theorem H0{s:Sp}(hs:oY s){ao:Int}(hn:U ao){q:Pc}(hq:Dc (QW q)):oY (rV ao s q):=by
 have h1:=ol hs.d (tI (q.2.1-q.1));have h2:=ol hs.g (tI (q.2.1-q.1));have h3:U (if bA (pD s) (IntKind.u64.wrap (q.2.1-q.1))>pL s then 0 else pL s):=by
  split
  ·exact aX 0
  ·exact hs.l
 unfold rV xp;split
 ·exact⟨h1,hn,hq.a,h3,h2,hq.b,hq.c,mS hq.a hq.d,mS hn hq.a⟩
 ·exact⟨h1,hn,hs.f,h3,h2,hs.pd,hs.pt,hs.si,hs.ai⟩
abbrev Ki(v:Sk)(upto:Int)(xs:List (Int×Int)):List Pc×Int:=((cm (eD upto xs v.bd.1)).1,v.bd.2)
def kz(v:Sk)(ao upto:Int)(xs:List (Int×Int)):Sk:={v with bd:=Ki v upto xs,bf:=(sV v.bf upto).2,sp:=qG ao v.sp (fD upto xs v.bd.1)}
def nH(v:Sk)(ao upto:Int)(xs:List (Int×Int)):Int×Sk:=if tZ v.bd upto xs then(0,jz (kz v ao upto xs) ao (cm (eD upto xs v.bd.1)).2.1)else(11,v)
theorem BE{ao:Int}(hn:U ao):∀(l:List Pc) (s:Sp),oY s→Bz l→oY (qG ao s l)
 |[],_,hs,_=>hs
 |q::l,s,hs,hl=>BE hn l (rV ao s q) (H0 hs hn (hl q (qz ..))) (λr hr=>hl r (nS _ hr))
theorem qh{l:List Pc}{upto:Int}{xs:List (Int×Int)}(h:Bz l):Bz (fD upto xs l):=λq hq=>h q (tv.1 hq).1
theorem z0{v:Sk}(hv:oM v)(hp:Bz v.bd.1){ao:Int}(hn:U ao)(upto:Int)(xs:List (Int×Int)):oM (kz v ao upto xs):=
  {
   hv with
   bf:=qE.ak hv.bf upto
   bl:=(by
     show(cm (eD upto xs v.bd.1)).1.length≤4096;rw[Ec];have:=pA upto xs v.bd.1 v.bd.1.length;rw[rK]at this;exact lQ this hv.bl)
   sp:=BE hn _ _ hv.sp (qh hp)
   fl:=VD _}
end ml

namespace De
open bB bi f_ eA fZ eH dY fk dZ eS ki mi nD nF lj qX mj ml
abbrev KR:Ks:=[.int .u64,.int .u64]
theorem Ni(p:Nat)(v:Sk)(hv:oM v)(hp:Bz v.bd.1)(ao upto:Int)(hn:U ao)(a:Sl)(xs:List (Ks.T KR))(hx:xs.length≤4294967296):bm (RK (some ⟨p,0⟩) ao upto a) (kg p v^ba a KR xs) (λr=>bh (r=(nH v ao upto xs).1) (kg p (nH v ao upto xs).2)):=
 br λw0 S R h=>by
  have hbl:=hv.bl;refine ae (λc=>(by simp at c)) λ_=>?_;obtain⟨pb,pd,ps,x,h⟩:=h.kg p;cases hm:tZ v.bd upto xs with
  |false=>
   have e:nH v ao upto xs=(11,v):=(by unfold nH;rw[ay (by rw[hm];intro c;cases c)]);rw[e];refine ac (aj h rfl (bI (Q:=ba a KR xs) (Di pd v.bd upto a xs hx hm) h λr w h=>?_));obtain⟨⟨_,_,h3⟩,h⟩:=h.aB;refine ae (λ_=>?_) λc=>(by rw[h3]at c;cases c);rw[h3];have h:au w0 S R w (kg p v^aT):=(h.kP p pb pd ps x v).aG;exact au.aE rfl h.bk
  |true=>
   have e:nH v ao upto xs=(0,jz (kz v ao upto xs) ao (cm (eD upto xs v.bd.1)).2.1):=(by unfold nH;rw[aC hm]);rw[e];refine ac (aj h rfl (bI (Q:=ba a KR xs) (NZ pd v.bd upto a xs (by omega) hx hm) h λr w h=>?_));obtain⟨r1,r2,r3⟩:=r;obtain⟨⟨h2,h3⟩,h⟩:=h.aB;dsimp only at h2 h3 h⊢;refine ae (λc=>(by rw[h3]at c;cases c)) λ_=>?_;refine ac (aj h rfl (af (Fb pb v.bf upto) h λr w h=>?_));obtain⟨_,h⟩:=h.aB;have h:au w0 S R w (aP r1 aD (fD upto xs v.bd.1)^(ah p (sL v pb pd ps x.1)^ah pb (Ks.mk qm (sV v.bf upto).2)^km pd (Ki v upto xs)^ah ps (Ks.mk m_ v.sp)^v8 x v.md)^aT):=h.aG;refine gn (λ(y:Sl) (g:List Pc×Sp)=>aP y aD g.1^(ah p (sL v pb pd ps x.1)^ah pb (Ks.mk qm (sV v.bf upto).2)^km pd (Ki v upto xs)^ah ps (Ks.mk m_ g.2)^v8 x v.md)^aT) (λ_ g=>oY g.2∧Bz g.1∧qG ao g.2 g.1=qG ao v.sp (fD upto xs v.bd.1)) (λ_ g=>g.1.length) (fD upto xs v.bd.1,v.sp) h ⟨hv.sp,qh hp,rfl⟩ ?_;rintro K (y:Sl) ⟨l,s⟩ w ⟨hs,hl,hE⟩ h k;dsimp only at hs hl hE h⊢;have hy:=(h.rd (s:=y)).2;have hcap:=oz (s:=y) (K:=aD) (xs:=l) h;refine ae (λc=>?_) λc=>?_
   ·have hl0:l=[]:=by
     have c:((y.len:Nat):Int)=0:=bV;cases l with
     |nil=>rfl
     |cons q l=>rw[hy]at c;simp at c;omega
    rw[hl0]at hE;have h:au w0 S R w (kg p (kz v ao upto xs)^aT):=by
     rw[show kz v ao upto xs={v with bd:=Ki v upto xs,bf:=(sV v.bf upto).2,sp:=s} by unfold kz;rw[←hE];rfl];exact(h.kP p pb pd ps x {v with bd:=Ki v upto xs,bf:=(sV v.bf upto).2,sp:=s}).aG
    rw[h2];refine af (A3 p (kz v ao upto xs) (z0 hv hp hn upto xs) ao _ hn (yT _)) h λ_ w h=>?_;exact au.aE rfl h.bk
   ·cases l with
    |nil=>rw[hy]at c;cases c
    |cons q l=>
     have hlen:y.len=l.length+1:=(by rw[hy];rfl);refine bR (s:=y) h (by decide) (by simp) (dW h y 0 (y:=q) rfl rfl (aA h λn12 w h=>aw h (by rfl) λw h=>?_));refine vF (s:=y) h 1 y.len y.cap rfl rfl rfl rfl (by omega) (by rw[hlen];exact fa _) (by omega) (by omega) λs13 _ _ h=>?_;have ht:((q::l).take y.len).drop 1=l:=(by rw[kp (by rw[hlen];exact fa _)];rfl);rw[ht]at h;refine aH h λw h=>ac (aj (x:=q.2.1) h rfl (aj (x:=q.1) h rfl (aj (x:=QW q) h rfl (aj h rfl ?_))));refine af (Iq ps s hs ao (IntKind.u64.wrap (q.2.1-q.1)) hn (tI _) (QW q) (hl q (qz ..))) h λ_ w h=>?_;exact k s13 (l,rV ao s q) w ⟨H0 hs hn (hl q (qz ..)),λz hz=>hl z (nS _ hz),hE⟩ h.aG (zh _)
end De

namespace nG
open bB bi f_ eA fZ eH dY fk dZ eS ki mi nD nF lj qX mj ml
structure vK(q:Pc):Prop where
 f:0≤iA q
 ft:iA q<w8 q
 le:w8 q-iA q≤65536
 t:w8 q≤4611686018427387904
 s:Dc (QW q)
 x:jr q=true→xI q=false
abbrev mQ(l:List Pc):Prop:=∀q∈l,vK q
theorem TP{q:Pc}(h:kW q=true):xI q=false∧jr q=false:=by
 unfold kW at h;cases h1:xI q<;>cases h2:jr q<;>rw[h1,h2]at h<;>first|exact⟨rfl,rfl⟩|cases h
theorem vK.lo{q:Pc}(h:vK q)(hf:kW q=true)(x:Bool):vK (gV q x):=⟨h.f,h.ft,h.le,h.t,⟨h.s.a,h.s.b,h.s.c,h.s.d⟩,λ_=>(TP hf).1⟩
theorem vK.xr{q:Pc}(h:vK q):vK (eX q):=by
 unfold eX;split
 ·exact h.lo (by assumption) true
 ·exact h
theorem vK.mark{q:Pc}(h:vK q)(upto:Int)(xs:List (Int×Int)):vK (ox upto xs q):=by
 unfold ox;split
 ·exact⟨h.f,h.ft,h.le,h.t,⟨h.s.a,h.s.b,h.s.c,h.s.d⟩,λhx=>by cases hx⟩
 ·exact h
theorem vK.again{q:Pc}(h:vK q){s:BB}(hs:Dc s):vK (lW q s):=⟨h.f,h.ft,h.le,h.t,⟨hs.a,hs.b,hs.c,hs.d⟩,λhx=>by cases hx⟩
theorem Ed{l:List Pc}(h:mQ l):mQ (l.map eX):=λq hq=>by
 obtain⟨p,hp,rfl⟩:=rP.1 hq;exact(h p hp).xr
theorem Ee:∀{l:List Pc},mQ l→mQ (cm l).1
 |[],_=>λq hq=>by cases hq
 |p::l,h=>λq hq=>by
  have h1:=h p (qz ..);have h2:=Ee (l:=l) λq hq=>h q (nS _ hq);simp only[cm]at hq;split at hq
  ·rename_i hh;rcases dO.1 hq with rfl|hq
   ·exact h1.lo (by unfold vZ at hh;rw[fG]at hh;exact hh.1) true
   ·exact h2 q hq
  ·rcases dO.1 hq with rfl|hq
   ·exact h1
   ·exact h2 q hq
theorem Mm{l:List Pc}(h:mQ l)(upto:Int)(xs:List (Int×Int)):mQ (eD upto xs l):=λq hq=>by
 obtain⟨p,hp,rfl⟩:=rP.1 hq;exact(h p (tv.1 hp).1).mark upto xs
theorem Jm{l:List Pc}(h:mQ l){s:BB}(hs:Dc s):mQ (dw l s):=λq hq=>by
 unfold dw at hq;split at hq
 ·rename_i p hp;split at hq
  ·exact h q hq
  ·rcases List.mem_or_eq_of_mem_set hq with hq|rfl
   ·exact h q hq
   ·exact(h p (kQ hp)).again hs
 ·exact h q hq
theorem Is(l:List Pc)(s:BB):(dw l s).length=l.length:=by
 unfold dw;split
 ·split
  ·rfl
  ·rw[qB]
 ·rfl
theorem yH{l:List Pc}(h:(bx l).2=true):∃q∈l,(bx l).1=(q.1,q.2.1):=by
 unfold bx at h⊢;split
 ·rename_i p hp;rw[hp]at h;dsimp only at h;split
  ·rename_i hc;rw[aC hc]at h;cases h
  ·exact⟨p,kQ hp,rfl⟩
 ·rename_i hp;rw[hp]at h;cases h
theorem pq{l:List Pc}(h:mQ l):qF l:=λhl=>by
 obtain⟨q,hq,e⟩:=yH hl;have h1:=h q hq;have h2:=h1.ft;have h3:=h1.le;rw[e];exact⟨by show 0≤w8 q-iA q;omega,h3⟩
structure mc(k:Int)(v:Sk):Prop where
 ok:oM v
 pc:mQ v.bd.1
 e:v.bd.2=bN v.bf
 w:bW v.bf≤k*1073741824
 o:v.out≤18014398509547520
theorem mc.bl{k:Int}{v:Sk}(h:mc k v):v.bd.1.length≤4294967296:=by have:=h.ok.bl;omega
theorem mc.ps{k:Int}{v:Sk}(h:mc k v):Bz v.bd.1:=λq hq=>(h.pc q hq).s
theorem mc.le{k j:Int}{v:Sk}(h:mc k v)(hj:k≤j):mc j v:={h with w:=by have:=h.w;omega}
theorem PD(id bn cap:Int)(hc:-9223372036854775808≤cap∧cap<9223372036854775808):mc 0 (ii id bn cap) where
 ok:={
  bf:=⟨(by decide:(0:Int)≤0),(by decide:(0:Int)≤0),(by decide:(0:Int)≤0),(by decide:(0:Int)-0≤1073741824),(by decide:(1073741824:Int)≤1073741824),(by decide:(0:Int)≤4611686018427387904)⟩
  bl:=by show(0:Nat)≤4096;decide
  sp:=Ue
  md:=fP.new _
  bn:=rf bn
  cap:=hc
  out:=aX 0
  nx:=aX 0
  fl:=aX 0}
 pc:=λq hq=>by cases hq
 e:=rfl
 w:=by show(0:Int)≤0*1073741824;decide
 o:=by show(0:Int)≤18014398509547520;decide
theorem mc.write{k:Int}{v:Sk}(h:mc k v)(hk:k<4294967296)(n:Int):mc (k+1) (eh v n).2:=by
 have hw:=h.w;have hl:=h.ok.bf.ll;have hh:=h.ok.bf.nw;have hu:=h.ok.bf.un;have h0:=h.ok.bf.u;unfold eh Ad;split
 ·exact h.le (by omega)
 ·split
  ·exact h.le (by omega)
  ·rename_i c1 c2;have hb:bW v.bf+n≤bW v.bf+1073741824:=by omega
   have hok:qE (bW v.bf+n,bN v.bf,bU v.bf,bL v.bf):=⟨h0,hu,by show bN v.bf≤bW v.bf+n;omega,by show bW v.bf+n-bU v.bf≤bL v.bf;omega,hl,by show bW v.bf+n≤4611686018427387904;omega⟩;exact{ok:={h.ok with bf:=hok},pc:=h.pc,e:=h.e,w:=by show bW v.bf+n≤(k+1)*1073741824;omega,o:=h.o}
theorem mc.done{k:Int}{v:Sk}(h:mc k v)(n:Int):mc k (b_ v n).2:=by
 have ho:=h.ok.out;unfold U at ho;unfold b_;split
 ·exact h
 ·rename_i c;have hb:=h.o;exact{h with ok:={h.ok with out:=by show U (v.out-n);unfold U;omega},o:=by show v.out-n≤18014398509547520;omega}
theorem LP{s:Sp}(hs:oY s){f:Int}(hf:U f):oY (nM s f):=by
 have h1:U (if bA (pD s) f>1 then bA (pD s) f else 1):=by
  have:=ol hs.d hf;split
  ·exact this
  ·exact aX 1
 exact{hs with l:=h1}
theorem z2{s:Sp}(hs:oY s){ao f:Int}(hn:U ao):oY (gu s ao f):=by
 unfold gu;split
 ·exact{hs with t:=hn,f:=hn}
 ·exact hs
theorem HY{s:Sp}(hs:oY s){ao f:Int}(hn:U ao):Dc (jm s ao f).1:=
 have h:=z2 hs (f:=f) hn
 ⟨hn,h.d,h.t,h.f⟩
theorem mc.may{k:Int}{v:Sk}(h:mc k v):mc k (dI v).2:=by
 unfold dI;split
 ·dsimp only;split
  ·exact{h with ok:={h.ok with sp:=LP h.ok.sp h.ok.fl}}
  ·exact h
 ·split
  ·exact h
  ·split<;>exact h
theorem Qy{a b:Int}(ha:U a)(hb:U b):U (if a>b then a else b):=by split;exact ha;exact hb
theorem mc.put{k:Int}{v:Sk}(h:mc k v){rg:Int×Int}{ag:Bool}{ao:Int}(hn:U ao)(hr:0≤rg.2-rg.1∧rg.2-rg.1≤65536)(ho:v.out<18014398509481984):mc k (kH v rg ag ao).2:=by
 have h1:=h.ok.out;unfold U at h1;exact{h with ok:={h.ok with out:=by show U (v.out+(rg.2-rg.1));unfold U;omega,nx:=ol (Qy h.ok.nx hn) (om (by omega) h.ok.md.aQ)},o:=by show v.out+(rg.2-rg.1)≤18014398509547520;omega}
theorem uK(l:List Pc):U (dh l):=VD l
theorem B5{v:Sk}(h:(dI v).1=0)(hl:(bx v.bd.1).2=false):bW v.bf-bN v.bf≠0∧v.bd.1.length<4096:=by
 unfold dI at h;by_cases c1:(bx v.bd.1).2=false∧bW v.bf-bN v.bf=0
 ·rw[aC c1]at h;cases h
 ·rw[ay c1]at h;split at h
  ·cases h
  ·by_cases c3:(bx v.bd.1).2=false∧(v.bd.1.length:Int)≥4096
   ·rw[aC c3]at h;cases h
   ·exact⟨λe=>c1 ⟨hl,e⟩,by
     have:¬(v.bd.1.length:Int)≥4096:=λe=>c3 ⟨hl,e⟩;omega⟩
abbrev ka(v:Sk):Int:=min (bW v.bf-bN v.bf) (bp v)
theorem Ho{k:Int}{v:Sk}(h:mc k v)(hu:bW v.bf-bN v.bf≠0):1≤ka v∧ka v≤65536∧ka v≤bW v.bf-bN v.bf:=by
 have:=rY v.md.aQ v.bn h.ok.md.aQ.1;have:=h.ok.bf.nw;unfold ka bp;omega
theorem V5{k:Int}{v:Sk}(h:mc k v)(hu:bW v.bf-bN v.bf≠0):kM v.bf (bp v)=(((bN v.bf,bN v.bf+ka v),true),(bW v.bf,bN v.bf+ka v,bU v.bf,bL v.bf)):=by
 have:=rY v.md.aQ v.bn h.ok.md.aQ.1;unfold kM;rw[aC ⟨by unfold bp;omega,hu⟩]
theorem P7{k:Int}{v:Sk}(h:mc k v)(hu:bW v.bf-bN v.bf≠0)(hl:v.bd.1.length<4096)(s:BB):dP v.bd (bN v.bf) (bN v.bf+ka v) s=(0,(v.bd.1++[t9 (bN v.bf) (bN v.bf+ka v) s],bN v.bf+ka v)):=by
 have hc:=Ho h hu;have he:=h.e;unfold dP;rw[ay (by omega),ay (by omega)]
abbrev T1(v:Sk)(ao:Int):Sk:={eg v ao with bf:=(bW v.bf,bN v.bf+ka v,bU v.bf,bL v.bf),bd:=(v.bd.1++[t9 (bN v.bf) (bN v.bf+ka v) (jm v.sp ao (cK v)).1],bN v.bf+ka v)}
abbrev T4(v:Sk)(ao:Int):Sk:={eg v ao with bd:=(dw v.bd.1 (jm v.sp ao (cK v)).1,v.bd.2)}
theorem Lt{k:Int}{v:Sk}(h:mc k v)(ao:Int)(hm:(dI v).1=0)(hl:(bx v.bd.1).2=false):uo v ao=kH (T1 v ao) (bN v.bf,bN v.bf+ka v) false ao:=by
 obtain⟨h1,h2⟩:=B5 hm hl;unfold uo;rw[ay (by rw[hl];intro c;cases c),V5 h h1];dsimp only;rw[P7 h h1 h2]
theorem Lu(v:Sk)(ao:Int)(hl:(bx v.bd.1).2=true):uo v ao=kH (T4 v ao) (bx v.bd.1).1 true ao:=by
 unfold uo;rw[aC hl]
theorem D4{k:Int}{v:Sk}(h:mc k v){ao:Int}(hn:U ao)(hm:(dI v).1=0)(hl:(bx v.bd.1).2=false):mc k (T1 v ao):=by
 obtain⟨h1,h2⟩:=B5 hm hl;have hc:=Ho h h1;have b1:=h.ok.bf.u;have b2:=h.ok.bf.un;have b3:=h.ok.bf.nw;have b6:=h.ok.bf.w;have hs:=HY h.ok.sp (f:=cK v) hn;exact{
  ok:={ h.ok with
   bf:=⟨b1,by show bU v.bf≤bN v.bf+ka v;omega,by show bN v.bf+ka v≤bW v.bf;omega,h.ok.bf.l,h.ok.bf.ll,b6⟩
   bl:=by show(v.bd.1++[_]).length≤4096;rw[iE];simp;omega
   sp:=z2 h.ok.sp hn
   fl:=uK _}
  pc:=λq hq=>by
   rcases eC.1 hq with hq|hq
   ·exact h.pc q hq
   ·rw[jY.1 hq];exact⟨by show 0≤bN v.bf;omega,by show bN v.bf<bN v.bf+ka v;omega,by show bN v.bf+ka v-bN v.bf≤65536;omega,by show bN v.bf+ka v≤4611686018427387904;omega,hs,λhx=>by cases hx⟩
  e:=rfl
  w:=h.w
  o:=h.o}
theorem D9{k:Int}{v:Sk}(h:mc k v){ao:Int}(hn:U ao):mc k (T4 v ao):=
  { ok:={ h.ok with
      bl:=by show(dw v.bd.1 _).length≤4096;rw[Is];exact h.ok.bl
      sp:=z2 h.ok.sp hn
      fl:=uK _}
    pc:=Jm h.pc (HY h.ok.sp hn)
    e:=h.e
    w:=h.w
    o:=h.o}
theorem mc.emit{k:Int}{v:Sk}(h:mc k v){ao:Int}(hn:U ao):mc k (bY v ao).2:=by
 unfold bY;by_cases hm:(dI v).1=0
 ·rw[ay (by rw[hm];exact λe=>e rfl)];obtain⟨ho,_⟩:=B6 h.ok.md.aQ hm;show mc k (uo v ao).2;cases hl:(bx v.bd.1).2 with
  |true=>
   rw[Lu v ao hl];exact(D9 h hn).put hn (pq h.pc hl) ho
  |false=>
   rw[Lt h ao hm hl];have hc:=Ho h (B5 hm hl).1;exact(D4 h hn hm hl).put hn (by show 0≤bN v.bf+ka v-bN v.bf∧bN v.bf+ka v-bN v.bf≤65536;omega) ho
 ·rw[aC hm];exact h.may
theorem A2{k:Int}{v:Sk}(h:mc k v){ao be:Int}(hn:U ao)(hl:U be):mc k (jz v ao be):=by
 have hts:=rY v.md.aQ v.bn h.ok.md.aQ.1;have ht:=xO h.ok.sp hn hl h.ok.fl;have hsp:=h.ok.sp;exact{ h with ok:={ h.ok with
  sp:=⟨hsp.d,hsp.t,hsp.f,hsp.l,aX 0,aX 0,aX 0,aX 0,aX 0⟩
  md:=h.ok.md.dj ht ⟨by unfold bp;omega,by unfold bp;omega⟩}}
theorem mc.xr{k:Int}{v:Sk}(h:mc k v){ao:Int}(hn:U ao):mc k (ie v ao):=
 A2 (v:={v with bd:=(v.bd.1.map eX,v.bd.2)}) {ok:=oM.xr h.ok,pc:=Ed h.pc,e:=h.e,w:=h.w,o:=h.o} hn (uK _)
theorem W8(b:Bf)(upto:Int):bN (sV b upto).2=bN b∧bW (sV b upto).2=bW b:=by
 unfold sV;split<;>exact⟨rfl,rfl⟩
end nG

end Go.X
