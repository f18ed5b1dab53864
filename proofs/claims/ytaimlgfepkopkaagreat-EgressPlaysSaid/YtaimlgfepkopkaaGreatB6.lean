/- Contracts and plain facts: BbrL BbrN BbrO BbrU. -/
import Derived.Test.YtaimlgfepkopkaaGreatB5
set_option linter.all false
namespace Go.X
open Go.Proofs
namespace Ie
open bB bi _root_.Go.X.Target fZ
theorem Oa(b:Nat)(v:Pb)(ao fl floor:Int)(st:Bool)(hn:U ao):bm (TD (some ⟨b,0⟩) ao st fl floor) (ah b (ad.iT v))
  (λx=>bh (x=(BG v ao st fl floor).1) (ah b (ad.iT ((BG v ao st fl floor).2)))):=
 br λw0 S R h=>by
  refine ac (aj h rfl ?_);refine ae (λc1=>?_) λc1=>?_
  ·have c1:v.jN=0:=(by simpa using c1);refine ae (λc2=>?_) λc2=>?_
   ·have c2:fl≤floor:=gk;have e:BG v ao st fl floor=(false,{v with jN:=bA ao 200000000,rd:=false}):=(by unfold BG;rw[aC c1,aC c2]);rw[e];refine af (eJ ao 200000000 hn (aX _)) (h.le (aF _)) λr w h=>?_;obtain⟨hr,h⟩:=h.aB;rw[hr];refine ac (az h b [.int .u64 v.dg,.int .u64 v.kE,.bool v.on,.int .u64 (bA ao 200000000),.bool v.rd] rfl rfl rfl λw h=>?_);refine ac (az h b [.int .u64 v.dg,.int .u64 v.kE,.bool v.on,.int .u64 (bA ao 200000000),.bool false] rfl rfl rfl λw h=>?_);exact au.aE rfl h.aG
   ·have c2:¬fl≤floor:=gk;have e:BG v ao st fl floor=(false,v):=(by unfold BG;rw[aC c1,ay c2]);rw[e];exact au.aE rfl h.aG
  ·have c1:¬v.jN=0:=(by simpa using c1);refine ac (aj h rfl (ac ?_));refine az h b [.int .u64 v.dg,.int .u64 v.kE,.bool v.on,.int .u64 v.jN,.bool (v.rd||st)] rfl rfl rfl λw h=>?_;have h:au w0 S R w (ah b [.int .u64 v.dg,.int .u64 v.kE,.bool v.on,.int .u64 v.jN,.bool (v.rd||st)]):=h.aG;refine aK h (λ_=>ah b [.int .u64 v.dg,.int .u64 v.kE,.bool v.on,.int .u64 v.jN,.bool (v.rd||st)]) (λ_=>(v.rd||st)=true∧¬ao≤v.jN) (λ_ w hc h=>?_) ?_
   ·have e:BG v ao st fl floor=(true,{v with rd:=v.rd||st,kE:=ao,on:=false}):=(by unfold BG;rw[ay c1,ay (by rw[hc.1];simp),ay hc.2]);rw[e];refine ac (az h b [.int .u64 v.dg,.int .u64 ao,.bool v.on,.int .u64 v.jN,.bool (v.rd||st)] rfl rfl rfl λw h=>?_);refine ac (az h b [.int .u64 v.dg,.int .u64 ao,.bool false,.int .u64 v.jN,.bool (v.rd||st)] rfl rfl rfl λw h=>?_);exact au.aE rfl h.aG
   ·refine ac (aj h rfl ?_);refine ae (λc2=>?_) λc2=>?_
    ·have e:BG v ao st fl floor=(false,{v with rd:=v.rd||st}):=(by unfold BG;rw[ay c1,aC c2]);rw[e];exact au.aE rfl h.aG
    ·refine ac (aj h rfl ?_);refine ae (λc3=>?_) λc3=>?_
     ·have c3:ao≤v.jN:=(by simpa using c3);have e:BG v ao st fl floor=(false,{v with rd:=v.rd||st}):=(by unfold BG;rw[ay c1,ay (by rw[c2];simp),aC c3]);rw[e];exact au.aE rfl h.aG
     ·have c4:∀x:Bool,(!x)=false→x=true:=(by decide);exact⟨⟨c4 _ c2,by simpa using c3⟩,h⟩
theorem Kl(b:Nat)(v:Pb)(hv:Im v)(ao bG fl floor:Int)(st:Bool)(hn:U ao)(hq:U bG):bm (Tx (some ⟨b,0⟩) ao bG st fl floor) (ah b (ad.iT v))
  (λx=>bh (x=(bU v ao bG st fl floor).1) (ah b (ad.iT ((bU v ao bG st fl floor).2)))):=
 br λw0 S R h=>by
  refine cS (λ_:Bool×Bool=>ah b (ad.iT v)) (λy:Bool×Bool=>y=(false,false)) (λ_=>0) h rfl ?_;rintro(⟨y1,y2⟩:Bool×Bool) w hy h;cases hy;refine ae (λ_=>?_) λc=>(by cases c);refine aK h (λ_=>ah b (ad.iT v)) (λy:Bool=>y=Ak v ao) (λ(y:Bool) w hy h=>?_) ?_
  ·rw[hy];refine aK h (λ_=>ah b (ad.iT ((lr v ao bG)))) (λ_=>True) (λ_ w _ h=>?_) ?_
   ·have on_eq:(lr v ao bG).on=v.on:=(by unfold lr;split<;>rfl);refine aK h (λ_=>ah b (ad.iT ((lr v ao bG)))) (λy:Bool=>y=(Ak v ao&&!v.on)) (λ(y:Bool) w hy h=>?_) ?_
    ·rw[hy];refine ae (λc=>?_) λc=>?_
     ·have e:bU v ao bG st fl floor=((true,false),{lr v ao bG with on:=true,jN:=0,rd:=false}):=(by unfold bU;rw[aC c]);rw[e];generalize lr v ao bG=u at*
      refine ac (az h b [.int .u64 u.dg,.int .u64 u.kE,.bool true,.int .u64 u.jN,.bool u.rd] rfl rfl rfl λw h=>?_);refine ac (az h b [.int .u64 u.dg,.int .u64 u.kE,.bool true,.int .u64 0,.bool u.rd] rfl rfl rfl λw h=>?_);refine ac (az h b [.int .u64 u.dg,.int .u64 u.kE,.bool true,.int .u64 0,.bool false] rfl rfl rfl λw h=>?_);exact au.aE rfl h.aG
     ·refine ac (aj h rfl ?_);rw[on_eq];refine ae (λc2=>?_) λc2=>?_
      ·have e:bU v ao bG st fl floor=((false,(BG (lr v ao bG) ao st fl floor).1),(BG (lr v ao bG) ao st fl floor).2):=(by unfold bU;rw[ay (by rw[c];simp),aC c2]);rw[e];refine af (Oa b (lr v ao bG) ao fl floor st hn) (h.le (aF _)) λr w h=>?_;obtain⟨hr,h⟩:=h.aB;exact au.aE (by rw[hr]) h.aG
      ·have e:bU v ao bG st fl floor=((false,false),lr v ao bG):=(by unfold bU;rw[ay (by rw[c];simp),ay (by rw[c2];simp)]);rw[e];exact au.aE rfl h.aG
    ·refine ae (λc=>?_) λc=>?_
     ·refine ac (aj h rfl ?_);exact⟨by rw[on_eq,c];rfl,h⟩
     ·exact⟨by rw[c];rfl,h⟩
   ·refine aK h (λ_=>ah b (ad.iT v)) (λy:Bool=>y=ya v ao bG) (λ(y:Bool) w hy h=>?_) ?_
    ·rw[hy];refine ae (λc=>?_) λc=>?_
     ·have e:lr v ao bG={v with dg:=bG,kE:=ao}:=(by unfold lr;rw[aC c]);rw[e];refine ac (az h b [.int .u64 bG,.int .u64 v.kE,.bool v.on,.int .u64 v.jN,.bool v.rd] rfl rfl rfl λw h=>?_);refine ac (az h b [.int .u64 bG,.int .u64 ao,.bool v.on,.int .u64 v.jN,.bool v.rd] rfl rfl rfl λw h=>?_);exact⟨trivial,h.aG⟩
     ·have e:lr v ao bG=v:=(by unfold lr;rw[ay (by rw[c];simp)]);rw[e];exact⟨trivial,h⟩
    ·refine ae (λc=>?_) λc=>?_
     ·refine ac (aj h rfl ?_);refine ae (λc2=>?_) λc2=>?_
      ·exact⟨by unfold ya;rw[show decide (bG>0)=true from c,show decide (v.dg=0)=true by simpa using c2];rfl,h⟩
      ·refine ac (aj h rfl ?_);exact⟨by unfold ya;rw[show decide (bG>0)=true from c,show decide (v.dg=0)=false by simpa using c2];rfl,h⟩
     ·exact⟨by unfold ya;rw[show decide (bG>0)=false from c];rfl,h⟩
  ·refine ac (aj h rfl ?_);refine ae (λc=>?_) λc=>?_
   ·refine ac (aj h rfl ?_);refine af (eJ v.kE 10000000000 hv.kE (aX _)) (h.le (aF _)) λr w h=>?_;obtain⟨hr,h⟩:=h.aB;exact⟨by rw[hr];unfold Ak;rw[show decide (v.dg>0)=true from c];rfl,h.aG⟩
   ·exact⟨by unfold Ak;rw[show decide (v.dg>0)=false from c];rfl,h⟩
theorem yD(b:Nat)(q:Pl)(s:Sm):bm (OX (some ⟨b,0⟩) s) (ah b (ad.fX q)) (λ_=>ah b (ad.fX ((kJ q s)))):=
 br λw0 S R h=>by
  refine aA h λn w h=>?_;refine aH h λw h=>aj h rfl (aj h rfl (ac (aj h rfl (ac ?_))));refine az h b [.bool q.iO,.bool true,.int .u64 q.bw,.int .i64 q.n,.int .u64 q.be,.int .u64 q.t0,.int .u64 q.d0,.int .u64 q.l0] rfl rfl rfl λw h=>?_;refine aI h rfl (aI h rfl (ac ?_));refine az h b [.bool q.iO,.bool true,.int .u64 q.bw,.int .i64 0,.int .u64 q.be,.int .u64 q.t0,.int .u64 q.d0,.int .u64 q.l0] rfl rfl rfl λw h=>?_;refine aI h rfl (aI h rfl (ac ?_));refine az h b [.bool q.iO,.bool true,.int .u64 q.bw,.int .i64 0,.int .u64 q.be,.int .u64 (iw s),.int .u64 (gp s),.int .u64 q.be] rfl rfl rfl λw h=>?_;exact au.bk (A:=ah b (ad.fX ((kJ q s)))) h
theorem tX(b:Nat)(q:Pl):bm (KW (some ⟨b,0⟩)) (ah b (ad.fX q)) (λ_=>ah b (ad.fX ((gi q)))):=
 br λw0 S R h=>by
  refine ac (az h b [.bool false,.bool q.uq,.int .u64 q.bw,.int .i64 q.n,.int .u64 q.be,.int .u64 q.t0,.int .u64 q.d0,.int .u64 q.l0] rfl rfl rfl λw h=>?_);refine ac (az h b [.bool false,.bool false,.int .u64 q.bw,.int .i64 q.n,.int .u64 q.be,.int .u64 q.t0,.int .u64 q.d0,.int .u64 q.l0] rfl rfl rfl λw h=>?_);refine ac (az h b [.bool false,.bool false,.int .u64 0,.int .i64 q.n,.int .u64 q.be,.int .u64 q.t0,.int .u64 q.d0,.int .u64 q.l0] rfl rfl rfl λw h=>?_);exact au.bk (A:=ah b (ad.fX ((gi q)))) h
theorem Ka{a b:Int}(ha:U a)(hb:U b):IntKind.u64.wrap ((if b>a then b else a)-(if b<a then b else a))=apart a b:=by
 unfold U apart at*
 by_cases h:a<b
 ·rw[aC (show b>a by omega),ay (show ¬b<a by omega),aC h,wu (by omega) (by omega)]
 ·rw[ay (show ¬b>a by omega),ay h];split
  ·rw[wu (by omega) (by omega)]
  ·rw[wu (by omega) (by omega)];omega
theorem Ix(a b:Int)(ha:U a)(hb:U b):bm (TB a b) aT (λx=>bh (x=apart a b) aT):=
 br λw0 S R h=>by
  exact au.aE (Ka ha hb) h.aG
theorem U8{w:Int}(h:U w):IntKind.u64.wrap (w.tdiv 8)=w/8:=by
 unfold U at h;rw[lP h.1,wu (by omega) (by omega)]
theorem I_(b:Nat)(q:Pl)(hq:qF q)(s:Sm)(hs:oX s):bm (TA (some ⟨b,0⟩) s) (ah b (ad.fX q))
  (λx=>bh (x=match nR q s with|none=>(0,false)|some r=>(r,true)) (ah b (ad.fX q))):=
 br λw0 S R h=>by
  refine aA h λn w h=>?_;have h:au w0 S R w (ah n (Ks.mk aO s)^ah b (ad.fX q)^aT):=h.le (aZ Le.rfl (aF _));refine aH h λw h=>aj h rfl (ac (ac (ac (aj h rfl (ac (aj h rfl (aj h rfl (aj h rfl (aj h rfl ?_)))))))));refine af (iN (gp s) q.d0 hs.del hq.d0) h λr w h=>?_;obtain⟨hr,h⟩:=h.aB;rw[hr];refine aI h rfl (aI h rfl (aI h rfl (aI h rfl ?_)));refine af (iN q.be q.l0 hq.be hq.l0) h λr w h=>?_;obtain⟨hr,h⟩:=h.aB;rw[hr];refine aI h rfl (aI h rfl ?_);refine af (iN (iw s) q.t0 hs.ao hq.t0) h λr w h=>?_;obtain⟨hr,h⟩:=h.aB;rw[hr];refine ae (λc=>?_) λc=>?_
  ·have c:dF (gp s) q.d0=0∨dF (iw s) q.t0=0:=bV;have e:nR q s=none:=(by unfold nR;rw[aC c]);rw[e];exact au.aE rfl h.aG
  have c:¬(dF (gp s) q.d0=0∨dF (iw s) q.t0=0):=λhh=>by
   rcases hh with hh|hh<;>simp[hh]at c
  refine af (t8 (dF (gp s) q.d0) 50 256 (mS hs.del hq.d0) (aX _) (aX _)) h λr w h=>?_;obtain⟨hr,h⟩:=h.aB;rw[hr];refine ae (λc2=>?_) λc2=>?_
  ·have c2:dF q.be q.l0<pW (dF (gp s) q.d0) 50 256:=gk;have e:nR q s=none:=(by unfold nR;rw[ay c,aC c2]);rw[e];exact au.aE rfl h.aG
  have c2:¬dF q.be q.l0<pW (dF (gp s) q.d0) 50 256:=gk;refine af (t8 (dF (gp s) q.d0) 1000000000 (dF (iw s) q.t0) (mS hs.del hq.d0) (aX _) (mS hs.ao hq.t0)) h λr w h=>?_;obtain⟨hr,h⟩:=h.aB;rw[hr];have e:nR q s=some (pW (dF (gp s) q.d0) 1000000000 (dF (iw s) q.t0)):=by unfold nR;rw[ay c,ay c2]
  rw[e];exact au.aE rfl h.aG
theorem W9(a b:Int)(ha:U a)(hb:U b):((BitVec.ofInt IntKind.u64.bits (IntKind.u64.wrap ((BitVec.ofInt IntKind.u64.bits a&&&BitVec.ofInt IntKind.u64.bits b).toNat:Int))&&&BitVec.ofInt IntKind.u64.bits (1:Int)).toNat:Int)=(a%2+b%2)/2:=by
 show((BitVec.ofInt 64 (IntKind.u64.wrap ((BitVec.ofInt 64 a&&&BitVec.ofInt 64 b).toNat:Int))&&&BitVec.ofInt 64 1).toNat:Int)=_;obtain⟨x,hx⟩:∃x,(BitVec.ofInt 64 a&&&BitVec.ofInt 64 b).toNat=x:=⟨_,rfl⟩;have hx2:x%2=(a.toNat&&&b.toNat)%2:=by rw[←hx,Gl,Vl ha,Vl hb]
 have hlt:x<18446744073709551616:=by rw[←hx];exact BitVec.isLt _
 rw[hx,wu (by omega) (by omega)];rw[Gl,Vl (show U (x:Int) by unfold U;omega),show(BitVec.ofInt 64 1).toNat=2^1-1 by decide,My];have h3:(a.toNat&&&b.toNat)%2=(a.toNat%2)*(b.toNat%2):=by
  have e:=Nat.and_mod_two_pow (a:=a.toNat) (b:=b.toNat) (n:=1);rw[show(2:Nat)^1=2 from rfl]at e;rw[e];have h1:a.toNat%2=0∨a.toNat%2=1:=by omega
  have h2:b.toNat%2=0∨b.toNat%2=1:=by omega
  rcases h1 with h1|h1<;>rcases h2 with h2|h2<;>rw[h1,h2]<;>rfl
 show((((x:Int).toNat)%2:Nat):Int)=_;rw[eR,hx2,h3];unfold U at ha hb;have h1:a%2=0∨a%2=1:=by omega
 have h2:b%2=0∨b%2=1:=by omega
 rcases h1 with h1|h1<;>rcases h2 with h2|h2
 ·rw[show a.toNat%2=0 by omega,h1,h2];simp
 ·rw[show a.toNat%2=0 by omega,h1,h2];simp
 ·rw[show b.toNat%2=0 by omega,h1,h2];simp
 ·rw[show a.toNat%2=1 by omega,show b.toNat%2=1 by omega,h1,h2];simp
theorem Rl{a b:Int}(ha:U a)(hb:U b):IntKind.u64.wrap ((IntKind.u64.wrap ((IntKind.u64.wrap (a.tdiv (2:Int)))+(IntKind.u64.wrap (b.tdiv (2:Int)))))+(IntKind.u64.wrap (BitVec.ofInt IntKind.u64.bits (IntKind.u64.wrap (BitVec.ofInt IntKind.u64.bits a&&&BitVec.ofInt IntKind.u64.bits b).toNat)&&&BitVec.ofInt IntKind.u64.bits (1:Int)).toNat))=Iy a b:=by
 rw[W9 a b ha hb,lP ha.1,lP hb.1];unfold U Iy at*
 simp only[wm];omega
theorem LN(b:Nat)(q:Pl)(hq:qF q)(s:Sm)(hs:oX s):bm (Tu (some ⟨b,0⟩) s) (ah b (ad.fX q)) (λ_=>ah b (ad.fX ((sZ q s)))):=
 br λw0 S R h=>by
  refine aA h λn w h=>?_;refine ar (x:=s) h rfl ?_;refine af (I_ b q hq s hs) h λr w h=>?_;obtain⟨hr,h⟩:=h.aB;rw[hr];cases hm:nR q s with
  |none=>
   have e:sZ q s=q:=(by unfold sZ;rw[hm]);rw[e];refine ae (λc=>?_) λc=>(by cases c);exact h.aG
  |some r=>
   have e:sZ q s=wg q s r:=(by unfold sZ;rw[hm]);rw[e];have hU:=E9 hq hs hm;refine ae (λc=>(by cases c)) λc=>?_;show join _ _ _ _;refine aK h (λ_=>ah b (ad.fX q)^ah n (Ks.mk aO s)) (λy:Bool=>y=decide (q.bw>0∧apart q.bw r≤q.bw/8)) (λ(y:Bool) w hy h=>?_) ?_
   ·rw[hy];refine ae (λc=>?_) λc=>?_
    ·have c:q.bw>0∧apart q.bw r≤q.bw/8:=bV;have e:wg q s r={q with bw:=Iy q.bw r,iO:=true,n:=0}:=(by unfold wg;rw[aC c]);rw[e];refine aH h λw h=>ac (ac (aj h rfl (aj h rfl (ac ?_))));dsimp only;rw[Rl hq.bw hU];refine az h b [.bool q.iO,.bool q.uq,.int .u64 (Iy q.bw r),.int .i64 q.n,.int .u64 q.be,.int .u64 q.t0,.int .u64 q.d0,.int .u64 q.l0] rfl rfl rfl λw h=>?_;refine ac (az h b [.bool true,.bool q.uq,.int .u64 (Iy q.bw r),.int .i64 q.n,.int .u64 q.be,.int .u64 q.t0,.int .u64 q.d0,.int .u64 q.l0] rfl rfl rfl λw h=>?_);refine ac (az h b [.bool true,.bool q.uq,.int .u64 (Iy q.bw r),.int .i64 0,.int .u64 q.be,.int .u64 q.t0,.int .u64 q.d0,.int .u64 q.l0] rfl rfl rfl λw h=>?_);exact h.bk
    ·have c:¬(q.bw>0∧apart q.bw r≤q.bw/8):=bV;have e:wg q s r=kJ {q with bw:=r} s:=(by unfold wg;rw[ay c]);rw[e];refine ac (az h b (ad.fX ({q with bw:=r})) rfl rfl rfl λw h=>?_);refine ar (x:=s) h rfl ?_;refine af (yD b {q with bw:=r} s) h λ_ w h=>?_;exact h.bk
   ·refine aH h λw h=>ac (aj h rfl ?_);refine ae (λc=>?_) λc=>?_
    ·have c:q.bw>0:=bV;refine ac (ac (aj h rfl (aj h rfl ?_)));refine af (Ix q.bw r hq.bw hU) (h.le ((aZ Le.rfl (aF _)))) λx w h=>?_;obtain⟨hx,h⟩:=h.aB;rw[hx,U8 hq.bw];refine aI h rfl ?_;exact⟨by simp[c],h.aG⟩
    ·have c:¬q.bw>0:=bV;exact⟨by simp[c],h.aG⟩
theorem H4{q:Pl}(h:qF q)(o:Bool)(hn:(fU q o).iO=false→(fU q o).n≤16)(hu:(fU q o).iO=false):qF (fU q o):=by
 cases o with
 |false=>exact h
 |true=>
  have h0:=h.n.1;have h1:=hn hu;have hu:q.iO=false:=hu;have h1:q.n+1≤16:=h1;exact⟨h.bw,⟨(by show 0≤q.n+1;omega),(by show q.n+1≤48;omega)⟩,h.be,h.t0,h.d0,h.l0,(λhh=>by have hh:q.iO=true:=hh;rw[hu]at hh;cases hh),λ_ _=>h1⟩
theorem LU(b:Nat)(q:Pl)(hq:qF q)(o:Bool)(s:Sm)(hs:oX s):bm (Th (some ⟨b,0⟩) o s) (ah b (ad.fX q)) (λ_=>ah b (ad.fX ((xu q o s)))):=
  br λw0 S R h=>by
    refine aA h λn w h=>?_;have h:au w0 S R w (ah n (Ks.mk aO s)^ah b (ad.fX q)^aT):=h.le (aZ Le.rfl (aF _));refine cS (λ_:Unit=>ah n (Ks.mk aO s)^ah b (ad.fX q)^aT) (λ_:Unit=>True) (λ_=>0) h trivial ?_;rintro _ w _ h;refine ae (λ_=>?_) λc=>(by cases c);refine aH h λw h=>ac (aj h rfl (aj h rfl ?_));refine af (eJ q.be (gr s) hq.be hs.be) h λr w h=>?_;obtain⟨hr,h⟩:=h.aB;rw[hr];refine ac (az h b (ad.fX ((lI q s))) rfl rfl rfl λw h=>?_);have hq1:=hq.add hs;have hu:(lI q s).iO=q.iO:=rfl;have hm:(lI q s).uq=q.uq:=rfl;have hdef:xu q o s=if(lI q s).iO=false∧(lI q s).uq=false then(if gr s>0 then kJ (lI q s) s else lI q s)
        else if(lI q s).iO=false∧qN s=true then gi (lI q s)else Cc (fU (lI q s) o) o s:=rfl
    rw[hdef];generalize lI q s=u at*
    have h:au w0 S R w (ah n (Ks.mk aO s)^ah b (ad.fX u)):=h.aG;refine aK h (λ_=>ah n (Ks.mk aO s)^ah b (ad.fX u)) (λy:Bool=>y=decide (u.iO=false∧u.uq=false)) (λ(y:Bool) w hy h=>?_) ?_
    · rw[hy]
      refine ae (λc=>?_) λc=>?_
      · have c:u.iO=false∧u.uq=false:=bV
        rw[aC c];refine aj h rfl ?_;refine ae (λc2=>?_) λc2=>?_
        · have c2:gr s>0:=gk
          rw[aC c2];refine ar (x:=s) h rfl ?_;refine af (yD b u s) (h.le (aZ Le.rfl (aF _))) λ_ w h=>?_;exact h.bk
        · have c2:¬gr s>0:=gk
          rw[ay c2];exact h.aG
      have c:¬(u.iO=false∧u.uq=false):=bV;rw[ay c];refine aK h (λ_=>ah n (Ks.mk aO s)^ah b (ad.fX u)) (λ_=>¬(u.iO=false∧qN s=true)) (λ_ w c2 h=>?_) ?_
      · rw[ay c2]
        have hn:=hq1.n;refine aK h (λ_=>ah n (Ks.mk aO s)^ah b (ad.fX ((fU u o)))) (λ_=>True) (λ_ w _ h=>?_) ?_
        · have ht:=H4 hq1 o
          generalize fU u o=v at*
          refine ac (aj h rfl ?_);refine ae (λc3=>?_) λc3=>?_
          · have c3:v.iO=true:=c3
            refine aK h (λ_=>ah n (Ks.mk aO s)^ah b (ad.fX v)) (λy:Bool=>y=decide (o=true∧v.n=48)) (λ(y:Bool) w hy h=>?_) ?_
            · rw[hy]
              refine ae (λc4=>?_) λc4=>?_
              · have c4:o=true∧v.n=48:=by simpa using c4
                have e:Cc v o s={gi v with n:=0}:=(by unfold Cc;rw[aC c3,aC c4]);rw[e];refine af (tX b v) (h.le (aZ Le.rfl (aF _))) λ_ w h=>?_;refine ac (az h b (ad.fX ({gi v with n:=0})) rfl rfl rfl λw h=>?_);exact h.bk
              · have c4:¬(o=true∧v.n=48):=by simpa using c4
                have e:Cc v o s=v:=(by unfold Cc;rw[aC c3,ay c4]);rw[e];exact h.aG
            · refine ae (λc4=>?_) λc4=>?_
              · refine ac (aj h rfl ?_)
                have c4:o=true:=c4;exact⟨by rw[c4,jk];simp,h⟩
              · have c4:o=false:=c4
                exact⟨by rw[c4];rfl,h⟩
          have c3:¬v.iO=true:=(by rw[show v.iO=false from c3];simp);have c3':v.iO=false:=(by simpa using c3);refine ac (aj h rfl ?_);refine ae (λc4=>?_) λc4=>?_
          · have c4:v.n>16:=by simpa using c4
            have e:Cc v o s=gi v:=(by unfold Cc;rw[ay c3,aC c4]);rw[e];refine af (tX b v) (h.le (aZ Le.rfl (aF _))) λ_ w h=>?_;exact h.bk
          have c4:¬v.n>16:=(by simpa using c4);refine aK h (λ_=>ah n (Ks.mk aO s)^ah b (ad.fX v)) (λy:Bool=>y=decide (v.n≥4∧gr s>0)) (λ(y:Bool) w hy h=>?_) ?_
          · rw[hy]
            refine ae (λc5=>?_) λc5=>?_
            · have c5:v.n≥4∧gr s>0:=by simpa using c5
              have e:Cc v o s=sZ v s:=(by unfold Cc;rw[ay c3,ay c4,aC c5]);rw[e];refine ar (x:=s) h rfl ?_;refine af (LN b v (ht (λ_=>by omega) c3') s hs) (h.le (aZ Le.rfl (aF _))) λ_ w h=>?_;exact h.bk
            · have c5:¬(v.n≥4∧gr s>0):=by simpa using c5
              have e:Cc v o s=v:=(by unfold Cc;rw[ay c3,ay c4,ay c5]);rw[e];exact h.aG
          · refine ac (aj h rfl ?_)
            refine ae (λc5=>?_) λc5=>?_
            · refine aj h rfl ?_
              have c5:v.n≥4:=(by simpa using c5);exact⟨by rw[jk];simp[c5],h⟩
            · have c5:¬v.n≥4:=by simpa using c5
              exact⟨by simp[c5],h⟩
        · refine ae (λc3=>?_) λc3=>?_
          · have c3:o=true:=c3
            have e:fU u o={u with n:=u.n+1}:=(by unfold fU;rw[aC c3]);rw[e];refine ac (aj h rfl (ac ?_));rw[wi (n:=u.n+1) (by omega) (by omega)];refine az h b (ad.fX ({u with n:=u.n+1})) rfl rfl rfl λw h=>?_;exact⟨trivial,h.aG⟩
          · have c3:o=false:=c3
            have e:fU u o=u:=(by unfold fU;rw[c3];rfl);rw[e];exact⟨trivial,h⟩
      · refine ac (aj h rfl ?_)
        refine ae (λc2=>?_) λc2=>?_
        · have c2:u.iO=false:=gk
          refine aj h rfl ?_;refine ae (λc3=>?_) λc3=>?_
          · rw[aC ⟨c2,c3⟩]
            refine af (tX b u) (h.le (aZ Le.rfl (aF _))) λ_ w h=>?_;exact h.bk
          · exact⟨λhh=>by
             have:qN s=false:=c3;rw[this]at hh;simp at hh,h⟩
        · have c2:u.iO=true:=gk
          exact⟨(λhh=>by rw[c2]at hh;simp at hh),h⟩
    · refine ac (aj h rfl ?_)
      refine ae (λc=>?_) λc=>?_
      · have c:u.iO=false:=bV
        refine ac (aj h rfl ?_);exact⟨by rw[c];cases u.uq<;>rfl,h⟩
      · have c:u.iO=true:=bV
        exact⟨by rw[c];rfl,h⟩
end Ie

namespace Ig
open bB bi _root_.Go.X.Target fZ eH Ih Ii JX Ie
theorem jj(n:Int):bm (Oh n) aT (λr=>ex λx:Nat×Nat×Nat×Nat×Nat×Nat×Nat=>match x with|(b,n1,n2,n3,n4,n5,n6)=>bh (r=some ⟨b,0⟩) (ah b (ad.gO n1 n2 n3 n4 n5 n6 ((lZ n)))^ah n1 (ad.fY ((lZ n).w))^ah n2 (ad.jo ((lZ n).r))^ah n3 (ad.jh ((lZ n).p))^ah n4 (ad.iz ((lZ n).c))^ah n5 (ad.iT ((lZ n).b))^ah n6 (ad.fX ((lZ n).q)))):=
 br λw0 S R h=>by
  refine af (NJ 10) h λr w h=>?_;obtain⟨n1,h⟩:=h.lX;obtain⟨hr,h⟩:=h.aB;rw[hr];refine af zP h λr w h=>?_;obtain⟨n2,h⟩:=h.lX;obtain⟨hr,h⟩:=h.aB;rw[hr];refine af Mo h λr w h=>?_;obtain⟨n3,h⟩:=h.lX;obtain⟨hr,h⟩:=h.aB;rw[hr];refine af yj h λr w h=>?_;obtain⟨n4,h⟩:=h.lX;obtain⟨hr,h⟩:=h.aB;rw[hr];refine af yd h λr w h=>?_;obtain⟨n5,h⟩:=h.lX;obtain⟨hr,h⟩:=h.aB;rw[hr];refine af yG h λr w h=>?_;obtain⟨n6,h⟩:=h.lX;obtain⟨hr,h⟩:=h.aB;rw[hr];have hm:=HO n;refine aA h λb w h=>?_;change au w0 S R w (ah b [.ptr (some ⟨n1,0⟩),.ptr (some ⟨n2,0⟩),.ptr (some ⟨n3,0⟩),.ptr (some ⟨n4,0⟩),.ptr (some ⟨n5,0⟩),.ptr (some ⟨n6,0⟩),.int .u64 (mJ n),.int .i64 0,.int .u64 0,.int .u64 0,.int .u64 0,.bool false,.bool false,.int .u64 0]^_)at h;change deref _ (λq8=>st _ [.int .u64 (IntKind.u64.wrap (10*mJ n))] _) w;rw[wu (n:=10*mJ n) (by omega) (by omega)];refine ac (az h b [.ptr (some ⟨n1,0⟩),.ptr (some ⟨n2,0⟩),.ptr (some ⟨n3,0⟩),.ptr (some ⟨n4,0⟩),.ptr (some ⟨n5,0⟩),.ptr (some ⟨n6,0⟩),.int .u64 (mJ n),.int .i64 0,.int .u64 0,.int .u64 (10*mJ n),.int .u64 0,.bool false,.bool false,.int .u64 0] rfl rfl rfl λw h=>?_);refine ac (aj h rfl ?_);rw[wu (n:=10*mJ n*1000) (by omega) (by omega)];refine af (vn (10*mJ n*1000) 739 ⟨by omega,by omega⟩ (aX _)) h λr w h=>?_;obtain⟨hr,h⟩:=h.aB;rw[hr];refine ac (az h b (ad.gO n1 n2 n3 n4 n5 n6 ((lZ n))) rfl rfl rfl λw h=>?_);exact au.gX (b,n1,n2,n3,n4,n5,n6) (au.aE rfl h.aG)
section
variable (b n1 n2 n3 n4 n5 n6:Nat) (m:Md)
theorem yf:bm (Fj (some ⟨b,0⟩)) (ah b (ad.gO n1 n2 n3 n4 n5 n6 m)^ah n1 (ad.fY m.w)^ah n2 (ad.jo m.r)^ah n3 (ad.jh m.p)^ah n4 (ad.iz m.c)^ah n5 (ad.iT m.b)^ah n6 (ad.fX m.q)) (λr=>bh (r=yI m) (ah b (ad.gO n1 n2 n3 n4 n5 n6 m)^ah n1 (ad.fY m.w)^ah n2 (ad.jo m.r)^ah n3 (ad.jh m.p)^ah n4 (ad.iz m.c)^ah n5 (ad.iT m.b)^ah n6 (ad.fX m.q))):=
 br λw0 S R h=>by
  repeat' (first
   |(refine aH h λw h=>?_)
   |(refine ac ?_)
   |(refine ar h rfl ?_)
   |(refine aj h rfl ?_)
   |(refine aJ h ?_)
   |(refine aI h rfl ?_)
   |(refine aw h (by rfl) λw h=>?_)
   |(refine aA h λn w h=>?_)
   |(refine aN h λw h=>?_)
   |(refine aU h rfl λw h=>?_;dsimp only[dj,over]at h)
   |(refine af (DZ n6 m.q) h λr w h=>?_;obtain⟨hr,h⟩:=h.aB;(try dsimp only at hr h);try rw[hr]))
  refine ae (λc=>?_) λc=>?_
  ·have c:m.q.iO=true:=c;exact au.aE (by unfold yI;rw[c];rfl) h.aG
  ·have c:m.q.iO=false:=c;repeat' (first
    |(refine aH h λw h=>?_)
    |(refine ac ?_)
    |(refine ar h rfl ?_)
    |(refine aj h rfl ?_)
    |(refine aJ h ?_)
    |(refine aI h rfl ?_)
    |(refine aw h (by rfl) λw h=>?_)
    |(refine aA h λn w h=>?_)
    |(refine aN h λw h=>?_)
    |(refine aU h rfl λw h=>?_;dsimp only[dj,over]at h)
    |(refine af (yc n1 m.w) h λr w h=>?_;obtain⟨hr,h⟩:=h.aB;(try dsimp only at hr h);try rw[hr]))
   exact au.aE (by unfold yI;rw[c];rfl) h.aG
theorem Ca:bm (Kp (some ⟨b,0⟩)) (ah b (ad.gO n1 n2 n3 n4 n5 n6 m)^ah n1 (ad.fY m.w)^ah n2 (ad.jo m.r)^ah n3 (ad.jh m.p)^ah n4 (ad.iz m.c)^ah n5 (ad.iT m.b)^ah n6 (ad.fX m.q)) (λr=>bh (r=m.q.iO) (ah b (ad.gO n1 n2 n3 n4 n5 n6 m)^ah n1 (ad.fY m.w)^ah n2 (ad.jo m.r)^ah n3 (ad.jh m.p)^ah n4 (ad.iz m.c)^ah n5 (ad.iT m.b)^ah n6 (ad.fX m.q))):=
 br λw0 S R h=>by
  repeat' (first
   |(refine aH h λw h=>?_)
   |(refine ac ?_)
   |(refine ar h rfl ?_)
   |(refine aj h rfl ?_)
   |(refine aJ h ?_)
   |(refine aI h rfl ?_)
   |(refine aw h (by rfl) λw h=>?_)
   |(refine aA h λn w h=>?_)
   |(refine aN h λw h=>?_)
   |(refine aU h rfl λw h=>?_;dsimp only[dj,over]at h)
   |(refine af (DZ n6 m.q) h λr w h=>?_;obtain⟨hr,h⟩:=h.aB;(try dsimp only at hr h);try rw[hr]))
  exact au.aE rfl h.aG
theorem AO:bm (Ol (some ⟨b,0⟩)) (ah b (ad.gO n1 n2 n3 n4 n5 n6 m)^ah n1 (ad.fY m.w)^ah n2 (ad.jo m.r)^ah n3 (ad.jh m.p)^ah n4 (ad.iz m.c)^ah n5 (ad.iT m.b)^ah n6 (ad.fX m.q)) (λr=>bh (r=fm m) (ah b (ad.gO n1 n2 n3 n4 n5 n6 m)^ah n1 (ad.fY m.w)^ah n2 (ad.jo m.r)^ah n3 (ad.jh m.p)^ah n4 (ad.iz m.c)^ah n5 (ad.iT m.b)^ah n6 (ad.fX m.q))):=
 br λw0 S R h=>by
  repeat' (first
   |(refine aH h λw h=>?_)
   |(refine ac ?_)
   |(refine ar h rfl ?_)
   |(refine aj h rfl ?_)
   |(refine aJ h ?_)
   |(refine aI h rfl ?_)
   |(refine aw h (by rfl) λw h=>?_)
   |(refine aA h λn w h=>?_)
   |(refine aN h λw h=>?_)
   |(refine aU h rfl λw h=>?_;dsimp only[dj,over]at h))
  refine ae (λc=>?_) λc=>?_
  ·exact au.aE (by unfold fm;rw[aC bV]) h.aG
  repeat' (first
   |(refine aH h λw h=>?_)
   |(refine ac ?_)
   |(refine ar h rfl ?_)
   |(refine aj h rfl ?_)
   |(refine aJ h ?_)
   |(refine aI h rfl ?_)
   |(refine aw h (by rfl) λw h=>?_)
   |(refine aA h λn w h=>?_)
   |(refine aN h λw h=>?_)
   |(refine aU h rfl λw h=>?_;dsimp only[dj,over]at h))
  refine ae (λc2=>?_) λc2=>?_
  ·exact au.aE (by unfold fm;rw[ay bV,aC gk]) h.aG
  have e:fm m=if m.mode=2∧m.q.iO=false then cG m.c else 256:=by unfold fm;rw[ay bV,ay gk]
  rw[e];refine aK h (λ_=>ah b (ad.gO n1 n2 n3 n4 n5 n6 m)^ah n1 (ad.fY m.w)^ah n2 (ad.jo m.r)^ah n3 (ad.jh m.p)^ah n4 (ad.iz m.c)^ah n5 (ad.iT m.b)^ah n6 (ad.fX m.q)) (λy:Bool=>y=decide (m.mode=2∧m.q.iO=false)) (λ(y:Bool) w hy h=>?_) ?_
  ·rw[hy];refine ae (λc3=>?_) λc3=>?_
   ·have c3:m.mode=2∧m.q.iO=false:=(by simpa using c3);rw[aC c3];repeat' (first
     |(refine aH h λw h=>?_)
     |(refine ac ?_)
     |(refine ar h rfl ?_)
     |(refine aj h rfl ?_)
     |(refine aJ h ?_)
     |(refine aI h rfl ?_)
     |(refine aw h (by rfl) λw h=>?_)
     |(refine aA h λn w h=>?_)
     |(refine aN h λw h=>?_)
     |(refine aU h rfl λw h=>?_;dsimp only[dj,over]at h)
     |(refine af (Ls n4 m.c) h λr w h=>?_;obtain⟨hr,h⟩:=h.aB;(try dsimp only at hr h);try rw[hr]))
    exact au.aE rfl h.aG
   ·have c3:¬(m.mode=2∧m.q.iO=false):=(by simpa using c3);rw[ay c3];exact au.aE rfl h.aG
  ·repeat' (first
    |(refine aH h λw h=>?_)
    |(refine ac ?_)
    |(refine ar h rfl ?_)
    |(refine aj h rfl ?_)
    |(refine aJ h ?_)
    |(refine aI h rfl ?_)
    |(refine aw h (by rfl) λw h=>?_)
    |(refine aA h λn w h=>?_)
    |(refine aN h λw h=>?_)
    |(refine aU h rfl λw h=>?_;dsimp only[dj,over]at h))
   refine ae (λc3=>?_) λc3=>?_
   ·have c3:m.mode=2:=(by simpa using c3);repeat' (first
     |(refine aH h λw h=>?_)
     |(refine ac ?_)
     |(refine ar h rfl ?_)
     |(refine aj h rfl ?_)
     |(refine aJ h ?_)
     |(refine aI h rfl ?_)
     |(refine aw h (by rfl) λw h=>?_)
     |(refine aA h λn w h=>?_)
     |(refine aN h λw h=>?_)
     |(refine aU h rfl λw h=>?_;dsimp only[dj,over]at h)
     |(refine af (Ca b n1 n2 n3 n4 n5 n6 m) h λr w h=>?_;obtain⟨hr,h⟩:=h.aB;(try dsimp only at hr h);try rw[hr]))
    exact⟨by rw[jk];simp[c3],h.aG⟩
   ·have c3:¬m.mode=2:=(by simpa using c3);exact⟨by simp[c3],h.aG⟩
theorem JQ:bm (Tz (some ⟨b,0⟩)) (ah b (ad.gO n1 n2 n3 n4 n5 n6 m)^ah n1 (ad.fY m.w)^ah n2 (ad.jo m.r)^ah n3 (ad.jh m.p)^ah n4 (ad.iz m.c)^ah n5 (ad.iT m.b)^ah n6 (ad.fX m.q)) (λr=>bh (r=jA m) (ah b (ad.gO n1 n2 n3 n4 n5 n6 m)^ah n1 (ad.fY m.w)^ah n2 (ad.jo m.r)^ah n3 (ad.jh m.p)^ah n4 (ad.iz m.c)^ah n5 (ad.iT m.b)^ah n6 (ad.fX m.q))):=
 br λw0 S R h=>by
  repeat' (first
   |(refine aH h λw h=>?_)
   |(refine ac ?_)
   |(refine ar h rfl ?_)
   |(refine aj h rfl ?_)
   |(refine aJ h ?_)
   |(refine aI h rfl ?_)
   |(refine aw h (by rfl) λw h=>?_)
   |(refine aA h λn w h=>?_)
   |(refine aN h λw h=>?_)
   |(refine aU h rfl λw h=>?_;dsimp only[dj,over]at h))
  refine ae (λc=>?_) λc=>?_
  ·exact au.aE (by unfold jA;rw[aC bV]) h.aG
  refine ae (λc2=>?_) λc2=>?_
  ·exact au.aE (by unfold jA;rw[ay bV,aC gk]) h.aG
  ·exact au.aE (by unfold jA;rw[ay bV,ay gk]) h.aG
theorem vY(hm:fP m):bm (KX (some ⟨b,0⟩)) (ah b (ad.gO n1 n2 n3 n4 n5 n6 m)^ah n1 (ad.fY m.w)^ah n2 (ad.jo m.r)^ah n3 (ad.jh m.p)^ah n4 (ad.iz m.c)^ah n5 (ad.iT m.b)^ah n6 (ad.fX m.q)) (λr=>bh (r=jc m) (ah b (ad.gO n1 n2 n3 n4 n5 n6 m)^ah n1 (ad.fY m.w)^ah n2 (ad.jo m.r)^ah n3 (ad.jh m.p)^ah n4 (ad.iz m.c)^ah n5 (ad.iT m.b)^ah n6 (ad.fX m.q))):=
 br λw0 S R h=>by
  repeat' (first
   |(refine aH h λw h=>?_)
   |(refine ac ?_)
   |(refine ar h rfl ?_)
   |(refine aj h rfl ?_)
   |(refine aJ h ?_)
   |(refine aI h rfl ?_)
   |(refine aw h (by rfl) λw h=>?_)
   |(refine aA h λn w h=>?_)
   |(refine aN h λw h=>?_)
   |(refine aU h rfl λw h=>?_;dsimp only[dj,over]at h))
  have:=hm.bn;exact au.aE (wu (by omega) (by omega)) h.aG
theorem yb(hm:fP m)(g:Int)(hg:U g):bm (KV (some ⟨b,0⟩) g) (ah b (ad.gO n1 n2 n3 n4 n5 n6 m)^ah n1 (ad.fY m.w)^ah n2 (ad.jo m.r)^ah n3 (ad.jh m.p)^ah n4 (ad.iz m.c)^ah n5 (ad.iT m.b)^ah n6 (ad.fX m.q)) (λr=>bh (r=rD m g) (ah b (ad.gO n1 n2 n3 n4 n5 n6 m)^ah n1 (ad.fY m.w)^ah n2 (ad.jo m.r)^ah n3 (ad.jh m.p)^ah n4 (ad.iz m.c)^ah n5 (ad.iT m.b)^ah n6 (ad.fX m.q))):=
 br λw0 S R h=>by
  have h:au w0 S R w0 ((ah b (ad.gO n1 n2 n3 n4 n5 n6 m)^ah n1 (ad.fY m.w)^ah n2 (ad.jo m.r)^ah n3 (ad.jh m.p)^ah n4 (ad.iz m.c)^ah n5 (ad.iT m.b)^ah n6 (ad.fX m.q))^aT):=h.le (aF _);repeat' (first
   |(refine aH h λw h=>?_)
   |(refine ac ?_)
   |(refine ar h rfl ?_)
   |(refine aj h rfl ?_)
   |(refine aJ h ?_)
   |(refine aI h rfl ?_)
   |(refine aw h (by rfl) λw h=>?_)
   |(refine aA h λn w h=>?_)
   |(refine aN h λw h=>?_)
   |(refine aU h rfl λw h=>?_;dsimp only[dj,over]at h)
   |(refine af (yf b n1 n2 n3 n4 n5 n6 m) h λr w h=>?_;obtain⟨hr,h⟩:=h.aB;(try dsimp only at hr h);try rw[hr])
   |(refine af (o_ n5 m.b) h λr w h=>?_;obtain⟨hr,h⟩:=h.aB;(try dsimp only at hr h);try rw[hr])
   |(refine af (Hi (yI m) m.b.dg g hm.bw hm.b.dg hg) h λr w h=>?_;obtain⟨hr,h⟩:=h.aB;(try dsimp only at hr h);try rw[hr]))
  exact au.aE rfl h.aG
theorem yl(ao:Int):bm (O0 (some ⟨b,0⟩) ao) (ah b (ad.gO n1 n2 n3 n4 n5 n6 m)^ah n1 (ad.fY m.w)^ah n2 (ad.jo m.r)^ah n3 (ad.jh m.p)^ah n4 (ad.iz m.c)^ah n5 (ad.iT m.b)^ah n6 (ad.fX m.q)) (λ_=>ah b (ad.gO n1 n2 n3 n4 n5 n6 ((eG m ao)))^ah n1 (ad.fY ((eG m ao).w))^ah n2 (ad.jo ((eG m ao).r))^ah n3 (ad.jh ((eG m ao).p))^ah n4 (ad.iz ((eG m ao).c))^ah n5 (ad.iT ((eG m ao).b))^ah n6 (ad.fX ((eG m ao).q))):=
 br λw0 S R h=>by
  refine ac (az h b (ad.gO n1 n2 n3 n4 n5 n6 ((eG m ao))) rfl rfl rfl λw h=>?_);refine ac (aj h rfl ?_);refine af (Hn n4 m.c ao 2 (by decide) (by decide)) h λr w h=>?_;show au w0 S R w (ah b (ad.gO n1 n2 n3 n4 n5 n6 ((eG m ao)))^ah n1 (ad.fY ((eG m ao).w))^ah n2 (ad.jo ((eG m ao).r))^ah n3 (ad.jh ((eG m ao).p))^ah n4 (ad.iz ((eG m ao).c))^ah n5 (ad.iT ((eG m ao).b))^ah n6 (ad.fX ((eG m ao).q)));exact h.aG
theorem q_:bm (O1 (some ⟨b,0⟩)) (ah b (ad.gO n1 n2 n3 n4 n5 n6 m)^ah n1 (ad.fY m.w)^ah n2 (ad.jo m.r)^ah n3 (ad.jh m.p)^ah n4 (ad.iz m.c)^ah n5 (ad.iT m.b)^ah n6 (ad.fX m.q)) (λ_=>ah b (ad.gO n1 n2 n3 n4 n5 n6 ((fS m)))^ah n1 (ad.fY ((fS m).w))^ah n2 (ad.jo ((fS m).r))^ah n3 (ad.jh ((fS m).p))^ah n4 (ad.iz ((fS m).c))^ah n5 (ad.iT ((fS m).b))^ah n6 (ad.fX ((fS m).q))):=
 br λw0 S R h=>by
  refine aH h λw h=>ac (ac (aj h rfl (aj h rfl (ac ?_))));refine az h b (ad.gO n1 n2 n3 n4 n5 n6 ({m with cv:=if m.gq>m.cv then m.gq else m.cv})) rfl rfl rfl λw h=>?_;refine ac (az h b (ad.gO n1 n2 n3 n4 n5 n6 ((fS m))) rfl rfl rfl λw h=>?_);show au w0 S R w (ah b (ad.gO n1 n2 n3 n4 n5 n6 ((fS m)))^ah n1 (ad.fY ((fS m).w))^ah n2 (ad.jo ((fS m).r))^ah n3 (ad.jh ((fS m).p))^ah n4 (ad.iz ((fS m).c))^ah n5 (ad.iT ((fS m).b))^ah n6 (ad.fX ((fS m).q)));exact h.aG
theorem sO:bm (IJ (some ⟨b,0⟩)) (ah b (ad.gO n1 n2 n3 n4 n5 n6 m)^ah n1 (ad.fY m.w)^ah n2 (ad.jo m.r)^ah n3 (ad.jh m.p)^ah n4 (ad.iz m.c)^ah n5 (ad.iT m.b)^ah n6 (ad.fX m.q)) (λr=>bh (r=Ac m) (ah b (ad.gO n1 n2 n3 n4 n5 n6 m)^ah n1 (ad.fY m.w)^ah n2 (ad.jo m.r)^ah n3 (ad.jh m.p)^ah n4 (ad.iz m.c)^ah n5 (ad.iT m.b)^ah n6 (ad.fX m.q))):=
 br λw0 S R h=>by
  refine aA h λx w h=>?_;refine ae (λc=>(by cases c)) λ_=>?_;repeat' (first
   |(refine aH h λw h=>?_)
   |(refine ac ?_)
   |(refine ar h rfl ?_)
   |(refine aj h rfl ?_)
   |(refine aJ h ?_)
   |(refine aI h rfl ?_)
   |(refine aw h (by rfl) λw h=>?_)
   |(refine aA h λn w h=>?_)
   |(refine aN h λw h=>?_)
   |(refine aU h rfl λw h=>?_;dsimp only[dj,over]at h)
   |(refine af (yf b n1 n2 n3 n4 n5 n6 m) h λr w h=>?_;obtain⟨hr,h⟩:=h.aB;(try dsimp only at hr h);try rw[hr])
   |(refine af (o_ n5 m.b) h λr w h=>?_;obtain⟨hr,h⟩:=h.aB;(try dsimp only at hr h);try rw[hr])
   |(refine af (AO b n1 n2 n3 n4 n5 n6 m) h λr w h=>?_;obtain⟨hr,h⟩:=h.aB;(try dsimp only at hr h);try rw[hr])
   |(refine af (sf n2 m.r) h λr w h=>?_;obtain⟨hr,h⟩:=h.aB;(try dsimp only at hr h);try rw[hr])
   |(refine af (Jn n4 m.c) h λr w h=>?_;obtain⟨hr,h⟩:=h.aB;(try dsimp only at hr h);try rw[hr])
   |(refine af (pi n3 m.p) h λr w h=>?_;obtain⟨hr,h⟩:=h.aB;(try dsimp only at hr h);try rw[hr])
   |(refine af (Ca b n1 n2 n3 n4 n5 n6 m) h λr w h=>?_;obtain⟨hr,h⟩:=h.aB;(try dsimp only at hr h);try rw[hr]))
  exact au.aE rfl h.aG
end
end Ig

namespace Q_
open bB bi _root_.Go.X.Target fZ eH Ih Ii JX Ie Ig
section
variable (b n1 n2 n3 n4 n5 n6:Nat) (m:Md) (hm:fP m) (s:Sm) (hs:oX s) (o:Bool)
include hm hs
theorem LZ:bm (Ti (some ⟨b,0⟩) s) (ah b (ad.gO n1 n2 n3 n4 n5 n6 m)^ah n1 (ad.fY m.w)^ah n2 (ad.jo m.r)^ah n3 (ad.jh m.p)^ah n4 (ad.iz m.c)^ah n5 (ad.iT m.b)^ah n6 (ad.fX m.q)) (λ_=>ah b (ad.gO n1 n2 n3 n4 n5 n6 ((eP m s)))^ah n1 (ad.fY ((eP m s).w))^ah n2 (ad.jo ((eP m s).r))^ah n3 (ad.jh ((eP m s).p))^ah n4 (ad.iz ((eP m s).c))^ah n5 (ad.iT ((eP m s).b))^ah n6 (ad.fX ((eP m s).q))):=
 br λw0 S R h=>by
  refine aA h λx w h=>?_;have h:au w0 S R w ((ah b (ad.gO n1 n2 n3 n4 n5 n6 m)^ah n1 (ad.fY m.w)^ah n2 (ad.jo m.r)^ah n3 (ad.jh m.p)^ah n4 (ad.iz m.c)^ah n5 (ad.iT m.b)^ah n6 (ad.fX m.q))^ah x (Ks.mk aO s)):=h.aG;refine aK h (λ_=>(ah b (ad.gO n1 n2 n3 n4 n5 n6 m)^ah n1 (ad.fY m.w)^ah n2 (ad.jo m.r)^ah n3 (ad.jh m.p)^ah n4 (ad.iz m.c)^ah n5 (ad.iT m.b)^ah n6 (ad.fX m.q))^ah x (Ks.mk aO s)) (λ_=>¬(fj s=0∨zU s=0)) (λ_ w c h=>?_) ?_
  ·repeat' (first
    |(refine aH h λw h=>?_)
    |(refine ac ?_)
    |(refine ar h rfl ?_)
    |(refine aj h rfl ?_)
    |(refine aJ h ?_)
    |(refine aI h rfl ?_)
    |(refine aw h (by rfl) λw h=>?_)
    |(refine aA h λn w h=>?_)
    |(refine aN h λw h=>?_)
    |(refine aU h rfl λw h=>?_;dsimp only[dj,over]at h)
    |(refine af (iN (gp s) (ED s) hs.del hs.pri) h λr w h=>?_;obtain⟨hr,h⟩:=h.aB;(try dsimp only at hr h);try rw[hr])
    |(refine af (t8 (dF (gp s) (ED s)) 1000000000 (zU s) (mS hs.del hs.pri) (aX _) hs.UW) h λr w h=>?_;obtain⟨hr,h⟩:=h.aB;(try dsimp only at hr h);try rw[hr]))
   have hU:U (mK s):=xX (mS hs.del hs.pri) (aX _) hs.UW;refine aK h (λ_=>(ah b (ad.gO n1 n2 n3 n4 n5 n6 m)^ah n1 (ad.fY m.w)^ah n2 (ad.jo m.r)^ah n3 (ad.jh m.p)^ah n4 (ad.iz m.c)^ah n5 (ad.iT m.b)^ah n6 (ad.fX m.q))^ah x (Ks.mk aO s)) (λy:Bool=>y=decide (qN s=false∨mK s≥m.w.v0)) (λ(y:Bool) w hy h=>?_) ?_
   ·rw[hy];refine ae (λc2=>?_) λc2=>?_
    ·have c2:qN s=false∨mK s≥m.w.v0:=gk;have e:eP m s={m with w:=z6 m.w m.r.n (mK s)}:=(by unfold eP;rw[ay c,aC c2]);rw[e];repeat' (first
      |(refine aH h λw h=>?_)
      |(refine ac ?_)
      |(refine ar h rfl ?_)
      |(refine aj h rfl ?_)
      |(refine aJ h ?_)
      |(refine aI h rfl ?_)
      |(refine aw h (by rfl) λw h=>?_)
      |(refine aA h λn w h=>?_)
      |(refine aN h λw h=>?_)
      |(refine aU h rfl λw h=>?_;dsimp only[dj,over]at h)
      |(refine af (sf n2 m.r) h λr w h=>?_;obtain⟨hr,h⟩:=h.aB;(try dsimp only at hr h);try rw[hr])
      |(refine af (FR n1 m.w hm.w m.r.n (mK s) hm.r.n hU) h λr w h=>?_;obtain⟨hr,h⟩:=h.aB;(try dsimp only at hr h);try rw[hr]))
     exact h.aG
    ·have c2:¬(qN s=false∨mK s≥m.w.v0):=gk;have e:eP m s=m:=(by unfold eP;rw[ay c,ay c2]);rw[e];exact h.aG
   ·repeat' (first
     |(refine aH h λw h=>?_)
     |(refine ac ?_)
     |(refine ar h rfl ?_)
     |(refine aj h rfl ?_)
     |(refine aJ h ?_)
     |(refine aI h rfl ?_)
     |(refine aw h (by rfl) λw h=>?_)
     |(refine aA h λn w h=>?_)
     |(refine aN h λw h=>?_)
     |(refine aU h rfl λw h=>?_;dsimp only[dj,over]at h))
    refine ae (λc2=>?_) λc2=>?_
    ·have c2:qN s=false:=gk;exact⟨by simp[c2],h.aG⟩
    ·have c2:qN s=true:=gk;repeat' (first
      |(refine aH h λw h=>?_)
      |(refine ac ?_)
      |(refine ar h rfl ?_)
      |(refine aj h rfl ?_)
      |(refine aJ h ?_)
      |(refine aI h rfl ?_)
      |(refine aw h (by rfl) λw h=>?_)
      |(refine aA h λn w h=>?_)
      |(refine aN h λw h=>?_)
      |(refine aU h rfl λw h=>?_;dsimp only[dj,over]at h)
      |(refine af (yc n1 m.w) h λr w h=>?_;obtain⟨hr,h⟩:=h.aB;(try dsimp only at hr h);try rw[hr]))
     exact⟨by rw[jk];simp[c2,mK],h.aG⟩
  ·repeat' (first
    |(refine aH h λw h=>?_)
    |(refine ac ?_)
    |(refine ar h rfl ?_)
    |(refine aj h rfl ?_)
    |(refine aJ h ?_)
    |(refine aI h rfl ?_)
    |(refine aw h (by rfl) λw h=>?_)
    |(refine aA h λn w h=>?_)
    |(refine aN h λw h=>?_)
    |(refine aU h rfl λw h=>?_;dsimp only[dj,over]at h))
   refine ae (λc=>?_) λc=>?_
   ·have c:fj s=0:=bV;have e:eP m s=m:=(by unfold eP;rw[aC (.inl c)]);rw[e];exact h.aG
   repeat' (first
    |(refine aH h λw h=>?_)
    |(refine ac ?_)
    |(refine ar h rfl ?_)
    |(refine aj h rfl ?_)
    |(refine aJ h ?_)
    |(refine aI h rfl ?_)
    |(refine aw h (by rfl) λw h=>?_)
    |(refine aA h λn w h=>?_)
    |(refine aN h λw h=>?_)
    |(refine aU h rfl λw h=>?_;dsimp only[dj,over]at h))
   have c:¬fj s=0:=bV;refine ae (λc2=>?_) λc2=>?_
   ·have c2:zU s=0:=gk;have e:eP m s=m:=(by unfold eP;rw[aC (.inr c2)]);rw[e];exact h.aG
   ·have c2:¬zU s=0:=gk;exact⟨λhh=>hh.elim c c2,h.aG⟩
theorem Jh:bm (Tl (some ⟨b,0⟩) s) (ah b (ad.gO n1 n2 n3 n4 n5 n6 m)^ah n1 (ad.fY m.w)^ah n2 (ad.jo m.r)^ah n3 (ad.jh m.p)^ah n4 (ad.iz m.c)^ah n5 (ad.iT m.b)^ah n6 (ad.fX m.q)) (λ_=>ah b (ad.gO n1 n2 n3 n4 n5 n6 ((sC (qJ m) s)))^ah n1 (ad.fY ((sC (qJ m) s).w))^ah n2 (ad.jo ((sC (qJ m) s).r))^ah n3 (ad.jh ((sC (qJ m) s).p))^ah n4 (ad.iz ((sC (qJ m) s).c))^ah n5 (ad.iT ((sC (qJ m) s).b))^ah n6 (ad.fX ((sC (qJ m) s).q))):=
 br λw0 S R h=>by
  refine aA h λx w h=>?_;have h:au w0 S R w ((ah b (ad.gO n1 n2 n3 n4 n5 n6 m)^ah n1 (ad.fY m.w)^ah n2 (ad.jo m.r)^ah n3 (ad.jh m.p)^ah n4 (ad.iz m.c)^ah n5 (ad.iT m.b)^ah n6 (ad.fX m.q))^ah x (Ks.mk aO s)):=h.aG;refine gn (λ(_:Unit) (u:Md)=>(ah b (ad.gO n1 n2 n3 n4 n5 n6 u)^ah n1 (ad.fY u.w)^ah n2 (ad.jo u.r)^ah n3 (ad.jh u.p)^ah n4 (ad.iz u.c)^ah n5 (ad.iT u.b)^ah n6 (ad.fX u.q))^ah x (Ks.mk aO s)) (λ_ u=>(fP u∧qJ u=qJ m)) (λ_ u=>if u.mode=0 then 1 else 0) m h ⟨hm,rfl⟩ ?_;rintro K _ u w ⟨hu,heq⟩ h hK;rw[←heq];refine aK h (λ_=>(ah b (ad.gO n1 n2 n3 n4 n5 n6 u)^ah n1 (ad.fY u.w)^ah n2 (ad.jo u.r)^ah n3 (ad.jh u.p)^ah n4 (ad.iz u.c)^ah n5 (ad.iT u.b)^ah n6 (ad.fX u.q))^ah x (Ks.mk aO s)) (λy:Bool=>y=decide (u.mode=0∧u.p.full=true)) (λ(y:Bool) w hy h=>?_) ?_
  ·rw[hy];refine ae (λc=>?_) λc=>?_
   ·have c:u.mode=0∧u.p.full=true:=bV;refine ac (az h b (ad.gO n1 n2 n3 n4 n5 n6 ({u with mode:=1})) rfl rfl rfl λw h=>?_);refine hK () {u with mode:=1} w ⟨{hu with mode:=by simp},?_⟩ h.aG ?_
    ·rw[←heq];have e1:qJ u={u with mode:=1}:=by unfold qJ;rw[aC c]
     rw[e1];unfold qJ;rw[ay (by simp)]
    ·rw[aC c.1,ay (by simp)];omega
   have c:¬(u.mode=0∧u.p.full=true):=bV;have e1:qJ u=u:=(by unfold qJ;rw[ay c]);rw[e1];refine aK h (λ_=>(ah b (ad.gO n1 n2 n3 n4 n5 n6 u)^ah n1 (ad.fY u.w)^ah n2 (ad.jo u.r)^ah n3 (ad.jh u.p)^ah n4 (ad.iz u.c)^ah n5 (ad.iT u.b)^ah n6 (ad.fX u.q))^ah x (Ks.mk aO s)) (λy:Bool=>y=decide (u.mode=1∧u.b.dg>0∧kd s≤rD u 256)) (λ(y:Bool) w hy h=>?_) ?_
   ·rw[hy];refine ae (λc2=>?_) λc2=>?_
    ·have c2:u.mode=1∧u.b.dg>0∧kd s≤rD u 256:=gk;have e:sC u s=eG u (iw s):=(by unfold sC;rw[aC c2]);rw[e];refine aj h rfl ?_;refine af (yl b n1 n2 n3 n4 n5 n6 u (iw s)) h λ_ w h=>?_;exact h.aG
    ·have c2:¬(u.mode=1∧u.b.dg>0∧kd s≤rD u 256):=gk;have e:sC u s=u:=(by unfold sC;rw[ay c2]);rw[e];exact h.aG
   ·repeat' (first
     |(refine aH h λw h=>?_)
     |(refine ac ?_)
     |(refine ar h rfl ?_)
     |(refine aj h rfl ?_)
     |(refine aJ h ?_)
     |(refine aI h rfl ?_)
     |(refine aw h (by rfl) λw h=>?_)
     |(refine aA h λn w h=>?_)
     |(refine aN h λw h=>?_)
     |(refine aU h rfl λw h=>?_;dsimp only[dj,over]at h))
    refine ae (λc2=>?_) λc2=>?_
    ·have c2:u.mode=1:=gk;repeat' (first
      |(refine aH h λw h=>?_)
      |(refine ac ?_)
      |(refine ar h rfl ?_)
      |(refine aj h rfl ?_)
      |(refine aJ h ?_)
      |(refine aI h rfl ?_)
      |(refine aw h (by rfl) λw h=>?_)
      |(refine aA h λn w h=>?_)
      |(refine aN h λw h=>?_)
      |(refine aU h rfl λw h=>?_;dsimp only[dj,over]at h)
      |(refine af (o_ n5 u.b) h λr w h=>?_;obtain⟨hr,h⟩:=h.aB;(try dsimp only at hr h);try rw[hr]))
     refine ae (λc3=>?_) λc3=>?_
     ·have c3:u.b.dg>0:=(by simpa using c3);repeat' (first
       |(refine aH h λw h=>?_)
       |(refine ac ?_)
       |(refine ar h rfl ?_)
       |(refine aj h rfl ?_)
       |(refine aJ h ?_)
       |(refine aI h rfl ?_)
       |(refine aw h (by rfl) λw h=>?_)
       |(refine aA h λn w h=>?_)
       |(refine aN h λw h=>?_)
       |(refine aU h rfl λw h=>?_;dsimp only[dj,over]at h)
       |(refine af (yb b n1 n2 n3 n4 n5 n6 u hu 256 (aX _)) h λr w h=>?_;obtain⟨hr,h⟩:=h.aB;(try dsimp only at hr h);try rw[hr]))
      exact⟨by rw[jk];simp[c2,c3],h.aG⟩
     ·have c3:¬u.b.dg>0:=(by simpa using c3);exact⟨by simp[c3],h.aG⟩
    ·have c2:¬u.mode=1:=gk;exact⟨by simp[c2],h.aG⟩
  ·repeat' (first
    |(refine aH h λw h=>?_)
    |(refine ac ?_)
    |(refine ar h rfl ?_)
    |(refine aj h rfl ?_)
    |(refine aJ h ?_)
    |(refine aI h rfl ?_)
    |(refine aw h (by rfl) λw h=>?_)
    |(refine aA h λn w h=>?_)
    |(refine aN h λw h=>?_)
    |(refine aU h rfl λw h=>?_;dsimp only[dj,over]at h))
   refine ae (λc=>?_) λc=>?_
   ·have c:u.mode=0:=bV;repeat' (first
     |(refine aH h λw h=>?_)
     |(refine ac ?_)
     |(refine ar h rfl ?_)
     |(refine aj h rfl ?_)
     |(refine aJ h ?_)
     |(refine aI h rfl ?_)
     |(refine aw h (by rfl) λw h=>?_)
     |(refine aA h λn w h=>?_)
     |(refine aN h λw h=>?_)
     |(refine aU h rfl λw h=>?_;dsimp only[dj,over]at h)
     |(refine af (pi n3 u.p) h λr w h=>?_;obtain⟨hr,h⟩:=h.aB;(try dsimp only at hr h);try rw[hr]))
    exact⟨by rw[jk];simp[c],h.aG⟩
   ·have c:¬u.mode=0:=bV;exact⟨by simp[c],h.aG⟩
theorem LQ:bm (Tm (some ⟨b,0⟩) s o) (ah b (ad.gO n1 n2 n3 n4 n5 n6 m)^ah n1 (ad.fY m.w)^ah n2 (ad.jo m.r)^ah n3 (ad.jh m.p)^ah n4 (ad.iz m.c)^ah n5 (ad.iT m.b)^ah n6 (ad.fX m.q)) (λ_=>ah b (ad.gO n1 n2 n3 n4 n5 n6 ((lM m s o)))^ah n1 (ad.fY ((lM m s o).w))^ah n2 (ad.jo ((lM m s o).r))^ah n3 (ad.jh ((lM m s o).p))^ah n4 (ad.iz ((lM m s o).c))^ah n5 (ad.iT ((lM m s o).b))^ah n6 (ad.fX ((lM m s o).q))):=
 br λw0 S R h=>by
  refine aA h λx w h=>?_;have h:au w0 S R w ((ah b (ad.gO n1 n2 n3 n4 n5 n6 m)^ah n1 (ad.fY m.w)^ah n2 (ad.jo m.r)^ah n3 (ad.jh m.p)^ah n4 (ad.iz m.c)^ah n5 (ad.iT m.b)^ah n6 (ad.fX m.q))^ah x (Ks.mk aO s)):=h.aG;repeat' (first
   |(refine aH h λw h=>?_)
   |(refine ac ?_)
   |(refine ar h rfl ?_)
   |(refine aj h rfl ?_)
   |(refine aJ h ?_)
   |(refine aI h rfl ?_)
   |(refine aw h (by rfl) λw h=>?_)
   |(refine aA h λn w h=>?_)
   |(refine aN h λw h=>?_)
   |(refine aU h rfl λw h=>?_;dsimp only[dj,over]at h)
   |(refine af (vY b n1 n2 n3 n4 n5 n6 m hm) h λr w h=>?_;obtain⟨hr,h⟩:=h.aB;(try dsimp only at hr h);try rw[hr])
   |(refine af (Kl n5 m.b hm.b (iw s) (Nh s) (kd s) (jc m) o hs.ao hs.bG) h λr w h=>?_;obtain⟨hr,h⟩:=h.aB;(try dsimp only at hr h);try rw[hr]))
  have e:lM m s o=gY {m with b:=(Ab m s o).2} (Ab m s o).1 (iw s):=rfl;rw[e];have h:au w0 S R w ((ah b (ad.gO n1 n2 n3 n4 n5 n6 (({m with b:=(Ab m s o).2})))^ah n1 (ad.fY (({m with b:=(Ab m s o).2}).w))^ah n2 (ad.jo (({m with b:=(Ab m s o).2}).r))^ah n3 (ad.jh (({m with b:=(Ab m s o).2}).p))^ah n4 (ad.iz (({m with b:=(Ab m s o).2}).c))^ah n5 (ad.iT (({m with b:=(Ab m s o).2}).b))^ah n6 (ad.fX (({m with b:=(Ab m s o).2}).q)))^ah x (Ks.mk aO s)):=h.aG;change aq (Ab m s o).1.1 _ (aq (Ab m s o).1.2 _ _) w;generalize(Ab m s o).1=r at*
  generalize{m with b:=(Ab m s o).2}=u at*
  refine ae (λc=>?_) λc=>?_
  ·have c:r.1=true:=c;have e:gY u r (iw s)={u with gq:=if u.cv>u.gq then u.cv else u.gq,mode:=3}:=(by unfold gY;rw[aC c]);rw[e];refine aH h λw h=>ac (ac (aj h rfl (aj h rfl (ac ?_))));refine az h b (ad.gO n1 n2 n3 n4 n5 n6 ({u with gq:=if u.cv>u.gq then u.cv else u.gq})) rfl rfl rfl λw h=>?_;refine ac (az h b (ad.gO n1 n2 n3 n4 n5 n6 ({u with gq:=if u.cv>u.gq then u.cv else u.gq,mode:=3})) rfl rfl rfl λw h=>?_);exact h.aG
  have c:r.1=false:=c;refine ae (λc2=>?_) λc2=>?_
  ·have c2:r.2=true:=c2;have e:gY u r (iw s)=if u.p.full then eG {fS u with mode:=0} (iw s)else{fS u with mode:=0}:=by unfold gY;rw[ay (by rw[c];simp),aC c2]
   rw[e];refine af (q_ b n1 n2 n3 n4 n5 n6 u) h λ_ w h=>?_;refine ac (az h b (ad.gO n1 n2 n3 n4 n5 n6 ({fS u with mode:=0})) rfl rfl rfl λw h=>?_);refine ac (aj h rfl ?_);refine af (pi n3 u.p) h λr w h=>?_;obtain⟨hr,h⟩:=h.aB;rw[hr];refine ae (λc3=>?_) λc3=>?_
   ·have c3:u.p.full=true:=c3;rw[aC c3];refine aj h rfl ?_;refine af (yl b n1 n2 n3 n4 n5 n6 {fS u with mode:=0} (iw s)) h λ_ w h=>?_;exact h.aG
   ·have c3:u.p.full=false:=c3;rw[ay (by rw[c3];simp)];exact h.aG
  ·have c2:r.2=false:=c2;have e:gY u r (iw s)=u:=(by unfold gY;rw[ay (by rw[c];simp),ay (by rw[c2];simp)]);rw[e];exact h.aG
theorem PZ:bm (To (some ⟨b,0⟩) s o) (ah b (ad.gO n1 n2 n3 n4 n5 n6 m)^ah n1 (ad.fY m.w)^ah n2 (ad.jo m.r)^ah n3 (ad.jh m.p)^ah n4 (ad.iz m.c)^ah n5 (ad.iT m.b)^ah n6 (ad.fX m.q)) (λ_=>ah b (ad.gO n1 n2 n3 n4 n5 n6 ((bq m s o)))^ah n1 (ad.fY ((bq m s o).w))^ah n2 (ad.jo ((bq m s o).r))^ah n3 (ad.jh ((bq m s o).p))^ah n4 (ad.iz ((bq m s o).c))^ah n5 (ad.iT ((bq m s o).b))^ah n6 (ad.fX ((bq m s o).q))):=
 br λw0 S R h=>by
  refine aA h λx w h=>?_;have h:au w0 S R w ((ah b (ad.gO n1 n2 n3 n4 n5 n6 m)^ah n1 (ad.fY m.w)^ah n2 (ad.jo m.r)^ah n3 (ad.jh m.p)^ah n4 (ad.iz m.c)^ah n5 (ad.iT m.b)^ah n6 (ad.fX m.q))^ah x (Ks.mk aO s)):=h.aG;refine aK h (λ_=>(ah b (ad.gO n1 n2 n3 n4 n5 n6 m)^ah n1 (ad.fY m.w)^ah n2 (ad.jo m.r)^ah n3 (ad.jh m.p)^ah n4 (ad.iz m.c)^ah n5 (ad.iT m.b)^ah n6 (ad.fX m.q))^ah x (Ks.mk aO s)) (λy:Bool=>y=decide (gr s>0∧m.lJ=false)) (λ(y:Bool) w hy h=>?_) ?_
  ·rw[hy];refine ae (λc=>?_) λc=>?_
   ·have c:gr s>0∧m.lJ=false:=bV;have e:bq m s o={m with lJ:=true,first:=true,jN:=bA (gp s) (kd s),gq:=if m.cv>m.gq then m.cv else m.gq}:=(by unfold bq;rw[aC c]);rw[e];refine aj h rfl (aj h rfl ?_);refine af (eJ (gp s) (kd s) hs.del hs.UK) (h.le ((aV _ _).trans (aZ Le.rfl (aF _)))) λr w h=>?_;obtain⟨hr,h⟩:=h.aB;rw[hr];refine ac (az h b (ad.gO n1 n2 n3 n4 n5 n6 ({m with lJ:=true})) rfl rfl rfl λw h=>?_);refine ac (az h b (ad.gO n1 n2 n3 n4 n5 n6 ({m with lJ:=true,first:=true})) rfl rfl rfl λw h=>?_);refine ac (az h b (ad.gO n1 n2 n3 n4 n5 n6 ({m with lJ:=true,first:=true,jN:=bA (gp s) (kd s)})) rfl rfl rfl λw h=>?_);refine aH h λw h=>ac (ac (aj h rfl (aj h rfl (ac ?_))));refine az h b (ad.gO n1 n2 n3 n4 n5 n6 ({m with lJ:=true,first:=true,jN:=bA (gp s) (kd s),gq:=if m.cv>m.gq then m.cv else m.gq})) rfl rfl rfl λw h=>?_;exact h.aG
   have c:¬(gr s>0∧m.lJ=false):=bV;refine ac (aj h rfl ?_);refine ae (λc2=>?_) λc2=>?_
   ·have c2:m.lJ=true:=c2;have e:bq m s o=if gp s<m.jN then{m with first:=m.first&&!o}else jV {m with first:=m.first&&!o}:=by unfold bq;rw[ay c,aC c2]
    rw[e];refine ac (aj h rfl (ac ?_));refine az h b (ad.gO n1 n2 n3 n4 n5 n6 ({m with first:=m.first&&!o})) rfl rfl rfl λw h=>?_;refine aH h λw h=>aj h rfl (ac (aj h rfl ?_));refine ae (λc3=>?_) λc3=>?_
    ·have c3:gp s<m.jN:=(by simpa using c3);rw[aC c3];exact h.aG
    have c3:¬gp s<m.jN:=(by simpa using c3);rw[ay c3];have h:au w0 S R w ((ah b (ad.gO n1 n2 n3 n4 n5 n6 (({m with first:=m.first&&!o})))^ah n1 (ad.fY (({m with first:=m.first&&!o}).w))^ah n2 (ad.jo (({m with first:=m.first&&!o}).r))^ah n3 (ad.jh (({m with first:=m.first&&!o}).p))^ah n4 (ad.iz (({m with first:=m.first&&!o}).c))^ah n5 (ad.iT (({m with first:=m.first&&!o}).b))^ah n6 (ad.fX (({m with first:=m.first&&!o}).q)))^ah x (Ks.mk aO s)):=h.aG;generalize{m with first:=m.first&&!o}=u at*
    refine ac (az h b (ad.gO n1 n2 n3 n4 n5 n6 ({u with lJ:=false})) rfl rfl rfl λw h=>?_);refine ac (az h b (ad.gO n1 n2 n3 n4 n5 n6 ({u with lJ:=false,first:=false})) rfl rfl rfl λw h=>?_);refine ac (aj h rfl ?_);refine ae (λc4=>?_) λc4=>?_
    ·have c4:u.mode≠3:=(by simpa using c4);have e:jV u=fS {u with lJ:=false,first:=false}:=(by unfold jV;rw[aC c4]);rw[e];refine af (q_ b n1 n2 n3 n4 n5 n6 {u with lJ:=false,first:=false}) h λ_ w h=>?_;exact h.aG
    ·have c4:¬u.mode≠3:=(by simpa using c4);have e:jV u={u with lJ:=false,first:=false}:=(by unfold jV;rw[ay c4]);rw[e];exact h.aG
   ·have c2:m.lJ=false:=c2;have e:bq m s o=m:=(by unfold bq;rw[ay c,ay (by rw[c2];simp)]);rw[e];exact h.aG
  ·refine aj h rfl ?_;refine ae (λc=>?_) λc=>?_
   ·have c:gr s>0:=bV;refine ac (aj h rfl ?_);exact⟨by rw[jk];simp[c],h⟩
   ·have c:¬gr s>0:=bV;exact⟨by simp[c],h⟩
omit hs in
theorem yR:bm (Tn (some ⟨b,0⟩)) (ah b (ad.gO n1 n2 n3 n4 n5 n6 m)^ah n1 (ad.fY m.w)^ah n2 (ad.jo m.r)^ah n3 (ad.jh m.p)^ah n4 (ad.iz m.c)^ah n5 (ad.iT m.b)^ah n6 (ad.fX m.q)) (λ_=>ah b (ad.gO n1 n2 n3 n4 n5 n6 ((dD m)))^ah n1 (ad.fY ((dD m).w))^ah n2 (ad.jo ((dD m).r))^ah n3 (ad.jh ((dD m).p))^ah n4 (ad.iz ((dD m).c))^ah n5 (ad.iT ((dD m).b))^ah n6 (ad.fX ((dD m).q))):=
 br λw0 S R h=>by
  have h:au w0 S R w0 ((ah b (ad.gO n1 n2 n3 n4 n5 n6 m)^ah n1 (ad.fY m.w)^ah n2 (ad.jo m.r)^ah n3 (ad.jh m.p)^ah n4 (ad.iz m.c)^ah n5 (ad.iT m.b)^ah n6 (ad.fX m.q))^aT):=h.le (aF _);repeat' (first
   |(refine aH h λw h=>?_)
   |(refine ac ?_)
   |(refine ar h rfl ?_)
   |(refine aj h rfl ?_)
   |(refine aJ h ?_)
   |(refine aI h rfl ?_)
   |(refine aw h (by rfl) λw h=>?_)
   |(refine aA h λn w h=>?_)
   |(refine aN h λw h=>?_)
   |(refine aU h rfl λw h=>?_;dsimp only[dj,over]at h)
   |(refine af (yf b n1 n2 n3 n4 n5 n6 m) h λr w h=>?_;obtain⟨hr,h⟩:=h.aB;(try dsimp only at hr h);try rw[hr]))
  refine ae (λc=>?_) λc=>?_
  ·have c:yI m=0:=bV;have e:dD m=m:=(by unfold dD;rw[aC c]);rw[e];exact h.aG
  have c:¬yI m=0:=bV;repeat' (first
   |(refine aH h λw h=>?_)
   |(refine ac ?_)
   |(refine ar h rfl ?_)
   |(refine aj h rfl ?_)
   |(refine aJ h ?_)
   |(refine aI h rfl ?_)
   |(refine aw h (by rfl) λw h=>?_)
   |(refine aA h λn w h=>?_)
   |(refine aN h λw h=>?_)
   |(refine aU h rfl λw h=>?_;dsimp only[dj,over]at h)
   |(refine af (yf b n1 n2 n3 n4 n5 n6 m) h λr w h=>?_;obtain⟨hr,h⟩:=h.aB;(try dsimp only at hr h);try rw[hr])
   |(refine af (AO b n1 n2 n3 n4 n5 n6 m) h λr w h=>?_;obtain⟨hr,h⟩:=h.aB;(try dsimp only at hr h);try rw[hr])
   |(refine af (vn (yI m) (fm m) hm.bw (E8 m)) h λr w h=>?_;obtain⟨hr,h⟩:=h.aB;(try dsimp only at hr h);try rw[hr]))
  have e:dD m=if m.p.full=true∨Jc m>m.aQ then{m with aQ:=Jc m}else m:=by unfold dD;rw[ay c]
  rw[e];have h:au w0 S R _ (ah b (ad.gO n1 n2 n3 n4 n5 n6 m)^ah n1 (ad.fY m.w)^ah n2 (ad.jo m.r)^ah n3 (ad.jh m.p)^ah n4 (ad.iz m.c)^ah n5 (ad.iT m.b)^ah n6 (ad.fX m.q)):=h.aG;refine aK h (λ_=>ah b (ad.gO n1 n2 n3 n4 n5 n6 m)^ah n1 (ad.fY m.w)^ah n2 (ad.jo m.r)^ah n3 (ad.jh m.p)^ah n4 (ad.iz m.c)^ah n5 (ad.iT m.b)^ah n6 (ad.fX m.q)) (λy:Bool=>y=decide (m.p.full=true∨Jc m>m.aQ)) (λ(y:Bool) w hy h=>?_) ?_
  ·rw[hy];refine ae (λc2=>?_) λc2=>?_
   ·have c2:m.p.full=true∨Jc m>m.aQ:=gk;rw[aC c2];refine ac (az h b (ad.gO n1 n2 n3 n4 n5 n6 ({m with aQ:=Jc m})) rfl rfl rfl λw h=>?_);exact h.aG
   ·have c2:¬(m.p.full=true∨Jc m>m.aQ):=gk;rw[ay c2];exact h.aG
  ·repeat' (first
    |(refine aH h λw h=>?_)
    |(refine ac ?_)
    |(refine ar h rfl ?_)
    |(refine aj h rfl ?_)
    |(refine aJ h ?_)
    |(refine aI h rfl ?_)
    |(refine aw h (by rfl) λw h=>?_)
    |(refine aA h λn w h=>?_)
    |(refine aN h λw h=>?_)
    |(refine aU h rfl λw h=>?_;dsimp only[dj,over]at h)
    |(refine af (pi n3 m.p) h λr w h=>?_;obtain⟨hr,h⟩:=h.aB;(try dsimp only at hr h);try rw[hr]))
   refine ae (λc2=>?_) λc2=>?_
   ·have c2:m.p.full=true:=c2;exact⟨by simp[c2],h.aG⟩
   ·have c2:m.p.full=false:=c2;repeat' (first
     |(refine aH h λw h=>?_)
     |(refine ac ?_)
     |(refine ar h rfl ?_)
     |(refine aj h rfl ?_)
     |(refine aJ h ?_)
     |(refine aI h rfl ?_)
     |(refine aw h (by rfl) λw h=>?_)
     |(refine aA h λn w h=>?_)
     |(refine aN h λw h=>?_)
     |(refine aU h rfl λw h=>?_;dsimp only[dj,over]at h))
    exact⟨by rw[jk];simp[c2,Jc],h.aG⟩
end
end Q_

namespace Ra
open bB bi _root_.Go.X.Target fZ eH Ih Ii JX Ie Ig Q_
section
variable (b n1 n2 n3 n4 n5 n6:Nat) (m:Md) (hm:fP m) (s:Sm) (hs:oX s) (tso:Int) (ht:U tso)
include hm hs ht
theorem Ha:bm (Tp (some ⟨b,0⟩) s tso) (ah b (ad.gO n1 n2 n3 n4 n5 n6 m)^ah n1 (ad.fY m.w)^ah n2 (ad.jo m.r)^ah n3 (ad.jh m.p)^ah n4 (ad.iz m.c)^ah n5 (ad.iT m.b)^ah n6 (ad.fX m.q)) (λ_=>ah b (ad.gO n1 n2 n3 n4 n5 n6 ((ej m s tso)))^ah n1 (ad.fY ((ej m s tso).w))^ah n2 (ad.jo ((ej m s tso).r))^ah n3 (ad.jh ((ej m s tso).p))^ah n4 (ad.iz ((ej m s tso).c))^ah n5 (ad.iT ((ej m s tso).b))^ah n6 (ad.fX ((ej m s tso).q))):=
 br λw0 S R h=>by
  refine aA h λx w h=>?_;have h:au w0 S R w ((ah b (ad.gO n1 n2 n3 n4 n5 n6 m)^ah n1 (ad.fY m.w)^ah n2 (ad.jo m.r)^ah n3 (ad.jh m.p)^ah n4 (ad.iz m.c)^ah n5 (ad.iT m.b)^ah n6 (ad.fX m.q))^ah x (Ks.mk aO s)^aT):=h.aG;refine aH h λw h=>ac (aj h rfl (ac (aj h rfl (aj h rfl ?_))));refine af (iN m.cv (gr s) hm.cv hs.be) h λr w h=>?_;obtain⟨hr,h⟩:=h.aB;rw[hr];refine aI h rfl ?_;refine ac (az h b (ad.gO n1 n2 n3 n4 n5 n6 ((xt m s))) rfl rfl rfl λw h=>?_);have e:ej m s tso=Jd (C3 (tj (xt m s) s tso)):=rfl;rw[e];have h:au w0 S R w ((ah b (ad.gO n1 n2 n3 n4 n5 n6 ((xt m s)))^ah n1 (ad.fY ((xt m s).w))^ah n2 (ad.jo ((xt m s).r))^ah n3 (ad.jh ((xt m s).p))^ah n4 (ad.iz ((xt m s).c))^ah n5 (ad.iT ((xt m s).b))^ah n6 (ad.fX ((xt m s).q)))^ah x (Ks.mk aO s)):=h.aG;have hu:=hm.w1 hs;generalize xt m s=u at*
  refine aK h (λ_=>(ah b (ad.gO n1 n2 n3 n4 n5 n6 ((tj u s tso)))^ah n1 (ad.fY ((tj u s tso).w))^ah n2 (ad.jo ((tj u s tso).r))^ah n3 (ad.jh ((tj u s tso).p))^ah n4 (ad.iz ((tj u s tso).c))^ah n5 (ad.iT ((tj u s tso).b))^ah n6 (ad.fX ((tj u s tso).q)))^ah x (Ks.mk aO s)) (λ_=>True) (λ_ w _ h=>?_) ?_
  ·have hv:=hu.w2 hs ht;generalize tj u s tso=v at*
   refine aH h λw h=>ac (aj h rfl ?_);refine af (vY b n1 n2 n3 n4 n5 n6 v hv) h λr w h=>?_;obtain⟨hr,h⟩:=h.aB;rw[hr];refine aI h rfl ?_;refine ac (az h b (ad.gO n1 n2 n3 n4 n5 n6 ((C3 v))) rfl rfl rfl λw h=>?_);refine ac (aj h rfl ?_);have h:au w0 S R w ((ah b (ad.gO n1 n2 n3 n4 n5 n6 ((C3 v)))^ah n1 (ad.fY ((C3 v).w))^ah n2 (ad.jo ((C3 v).r))^ah n3 (ad.jh ((C3 v).p))^ah n4 (ad.iz ((C3 v).c))^ah n5 (ad.iT ((C3 v).b))^ah n6 (ad.fX ((C3 v).q)))^ah x (Ks.mk aO s)):=h.aG;have hy:=hv.w3;generalize C3 v=y at*
   refine ae (λc=>?_) λc=>?_
   ·have c:y.mode=3:=bV;have e:Jd y={y with cv:=jc y}:=(by unfold Jd;rw[aC c]);rw[e];refine af (vY b n1 n2 n3 n4 n5 n6 y hy) h λr w h=>?_;obtain⟨hr,h⟩:=h.aB;rw[hr];refine ac (az h b (ad.gO n1 n2 n3 n4 n5 n6 ({y with cv:=jc y})) rfl rfl rfl λw h=>?_);exact h.aG
   ·have c:¬y.mode=3:=bV;have e:Jd y=y:=(by unfold Jd;rw[ay c]);rw[e];exact h.aG
  ·refine ac (aj h rfl ?_);refine ae (λc=>?_) λc=>?_
   ·have c:u.first=true:=c;have e:tj u s tso={u with cv:=if bA (kd s) (fj s)>u.cv then bA (kd s) (fj s)else u.cv}:=(by unfold tj;rw[aC c]);rw[e];refine aH h λw h=>ac (aj h rfl (aj h rfl (aj h rfl ?_)));refine af (eJ (kd s) (fj s) hs.UK hs.Dh) (h.le (aZ Le.rfl (aF _))) λr w h=>?_;obtain⟨hr,h⟩:=h.aB;rw[hr];refine aI h rfl (ac ?_);refine az h b (ad.gO n1 n2 n3 n4 n5 n6 ({u with cv:=if bA (kd s) (fj s)>u.cv then bA (kd s) (fj s)else u.cv})) rfl rfl rfl λw h=>?_;exact⟨trivial,h.aG⟩
   have c:¬u.first=true:=(by rw[show u.first=false from c];simp);refine aj h rfl ?_;refine ae (λc2=>?_) λc2=>?_
   ·have c2:fj s>0:=gk;have e:tj u s tso=if u.p.full then{u with cv:=if nN u tso<bA u.cv (fj s)then nN u tso else bA u.cv (fj s)}
      else if u.cv<nN u tso∨gp s<10*u.bn then{u with cv:=bA u.cv (fj s)}else u:=by unfold tj;rw[ay c,aC c2]
    rw[e];have h:au w0 S R w ((ah b (ad.gO n1 n2 n3 n4 n5 n6 u)^ah n1 (ad.fY u.w)^ah n2 (ad.jo u.r)^ah n3 (ad.jh u.p)^ah n4 (ad.iz u.c)^ah n5 (ad.iT u.b)^ah n6 (ad.fX u.q))^ah x (Ks.mk aO s)^aT):=h.le (aZ Le.rfl (aF _));repeat' (first
     |(refine aH h λw h=>?_)
     |(refine ac ?_)
     |(refine ar h rfl ?_)
     |(refine aj h rfl ?_)
     |(refine aJ h ?_)
     |(refine aI h rfl ?_)
     |(refine aw h (by rfl) λw h=>?_)
     |(refine aA h λn w h=>?_)
     |(refine aN h λw h=>?_)
     |(refine aU h rfl λw h=>?_;dsimp only[dj,over]at h)
     |(refine af (yf b n1 n2 n3 n4 n5 n6 u) h λr w h=>?_;obtain⟨hr,h⟩:=h.aB;(try dsimp only at hr h);try rw[hr])
     |(refine af (o_ n5 u.b) h λr w h=>?_;obtain⟨hr,h⟩:=h.aB;(try dsimp only at hr h);try rw[hr])
     |(refine af (JQ b n1 n2 n3 n4 n5 n6 u) h λr w h=>?_;obtain⟨hr,h⟩:=h.aB;(try dsimp only at hr h);try rw[hr])
     |(refine af (Target.Qj (yI u) u.b.dg (jA u) tso u.bn hu.bw hu.b.dg (E_ u) ht hu.PB) h λr w h=>?_;obtain⟨hr,h⟩:=h.aB;(try dsimp only at hr h);try rw[hr])
     |(refine af (pi n3 u.p) h λr w h=>?_;obtain⟨hr,h⟩:=h.aB;(try dsimp only at hr h);try rw[hr]))
    refine ae (λc3=>?_) λc3=>?_
    ·have c3:u.p.full=true:=c3;rw[aC c3];refine aH h λw h=>ac (aj h rfl (aj h rfl ?_));refine af (eJ u.cv (fj s) hu.cv hs.Dh) h λr w h=>?_;obtain⟨hr,h⟩:=h.aB;rw[hr];refine ac ?_;refine az h b (ad.gO n1 n2 n3 n4 n5 n6 ({u with cv:=if nN u tso<bA u.cv (fj s)then nN u tso else bA u.cv (fj s)})) rfl rfl rfl λw h=>?_;exact⟨trivial,h.aG⟩
    have c3:¬u.p.full=true:=(by rw[show u.p.full=false from c3];simp);rw[ay c3];have hms:=hu.bn;have h:au w0 S R _ ((ah b (ad.gO n1 n2 n3 n4 n5 n6 u)^ah n1 (ad.fY u.w)^ah n2 (ad.jo u.r)^ah n3 (ad.jh u.p)^ah n4 (ad.iz u.c)^ah n5 (ad.iT u.b)^ah n6 (ad.fX u.q))^ah x (Ks.mk aO s)^aT):=h.aG;refine aK h (λ_=>(ah b (ad.gO n1 n2 n3 n4 n5 n6 u)^ah n1 (ad.fY u.w)^ah n2 (ad.jo u.r)^ah n3 (ad.jh u.p)^ah n4 (ad.iz u.c)^ah n5 (ad.iT u.b)^ah n6 (ad.fX u.q))^ah x (Ks.mk aO s)^aT) (λy:Bool=>y=decide (u.cv<nN u tso∨gp s<10*u.bn)) (λ(y:Bool) w hy h=>?_) ?_
    ·rw[hy];refine ae (λc4=>?_) λc4=>?_
     ·have c4:u.cv<nN u tso∨gp s<10*u.bn:=(by simpa using c4);rw[aC c4];refine aH h λw h=>ac (aj h rfl (aj h rfl ?_));refine af (eJ u.cv (fj s) hu.cv hs.Dh) h λr w h=>?_;obtain⟨hr,h⟩:=h.aB;rw[hr];refine ac ?_;refine az h b (ad.gO n1 n2 n3 n4 n5 n6 ({u with cv:=bA u.cv (fj s)})) rfl rfl rfl λw h=>?_;exact⟨trivial,h.aG⟩
     ·have c4:¬(u.cv<nN u tso∨gp s<10*u.bn):=(by simpa using c4);rw[ay c4];exact⟨trivial,h.aG⟩
    ·refine aH h λw h=>ac (aj h rfl ?_);refine ae (λc4=>?_) λc4=>?_
     ·have c4:u.cv<nN u tso:=bJ c4;exact⟨by simp[c4],h⟩
     ·have c4:¬u.cv<nN u tso:=bQ c4;refine aj h rfl (ac (aj h rfl ?_));rw[wu (n:=10*u.bn) (by omega) (by omega)];exact⟨by rw[jk];simp[c4],h⟩
   ·have c2:¬fj s>0:=gk;have e:tj u s tso=u:=(by unfold tj;rw[ay c,ay c2]);rw[e];exact⟨trivial,h⟩
theorem Qf:bm (OK (some ⟨b,0⟩) s tso) (ah b (ad.gO n1 n2 n3 n4 n5 n6 m)^ah n1 (ad.fY m.w)^ah n2 (ad.jo m.r)^ah n3 (ad.jh m.p)^ah n4 (ad.iz m.c)^ah n5 (ad.iT m.b)^ah n6 (ad.fX m.q)) (λr=>bh (r=Ac (oP m s tso)) (ah b (ad.gO n1 n2 n3 n4 n5 n6 ((oP m s tso)))^ah n1 (ad.fY ((oP m s tso).w))^ah n2 (ad.jo ((oP m s tso).r))^ah n3 (ad.jh ((oP m s tso).p))^ah n4 (ad.iz ((oP m s tso).c))^ah n5 (ad.iT ((oP m s tso).b))^ah n6 (ad.fX ((oP m s tso).q)))):=
 br λw0 S R h=>by
  refine aA h λx w h=>?_;refine aA h λy w h=>?_;refine ae (λc=>(by cases c)) λ_=>?_;have h:au w0 S R w ((ah b (ad.gO n1 n2 n3 n4 n5 n6 m)^ah n1 (ad.fY m.w)^ah n2 (ad.jo m.r)^ah n3 (ad.jh m.p)^ah n4 (ad.iz m.c)^ah n5 (ad.iT m.b)^ah n6 (ad.fX m.q))^ah x (Ks.mk aO s)^ah y [.int .i64 0,.int .i64 0,.int .u64 0,.int .u64 0,.int .u64 0,.int .u64 0,.int .u64 0,.int .u64 0,.bool false,.bool false]):=h.aG;refine aH h λw h=>ar (x:=s) h rfl (ac (aj h rfl ?_));refine af (zT n2 m.r s) h λr w h=>?_;obtain⟨hr,h⟩:=h.aB;rw[hr];refine aH h λw h=>ar (x:=s) h rfl (ac (aj h rfl ?_));refine af (LU n6 m.q hm.q (rB m.r s) s hs) h λ_ w h=>?_;refine ar (x:=s) h rfl ?_;have e:oP m s tso=LX (Py (C2 m s) (rB m.r s) s) (rB m.r s) s tso:=rfl;rw[e];have h:au w0 S R w ((ah b (ad.gO n1 n2 n3 n4 n5 n6 ((C2 m s)))^ah n1 (ad.fY ((C2 m s).w))^ah n2 (ad.jo ((C2 m s).r))^ah n3 (ad.jh ((C2 m s).p))^ah n4 (ad.iz ((C2 m s).c))^ah n5 (ad.iT ((C2 m s).b))^ah n6 (ad.fX ((C2 m s).q)))^ah x (Ks.mk aO s)^ah y [.int .i64 0,.int .i64 0,.int .u64 0,.int .u64 0,.int .u64 0,.int .u64 0,.int .u64 0,.int .u64 0,.bool false,.bool false]):=h.aG;have h1:=hm.u1 hs;generalize rB m.r s=o at*
  generalize C2 m s=u at*
  refine af (LZ b n1 n2 n3 n4 n5 n6 u h1 s hs) h λ_ w h=>?_;have h2:=h1.PA hs;have e:Py u o s=lM (sC (qJ (jW (gW (eP u s) s) o s)) s) s o:=rfl;rw[e];generalize eP u s=v at*
  have h:au w0 S R w ((ah b (ad.gO n1 n2 n3 n4 n5 n6 v)^ah n1 (ad.fY v.w)^ah n2 (ad.jo v.r)^ah n3 (ad.jh v.p)^ah n4 (ad.iz v.c)^ah n5 (ad.iT v.b)^ah n6 (ad.fX v.q))^ah x (Ks.mk aO s)^ah y [.int .i64 0,.int .i64 0,.int .u64 0,.int .u64 0,.int .u64 0,.int .u64 0,.int .u64 0,.int .u64 0,.bool false,.bool false]):=h.aG;refine aK h (λ_=>(ah b (ad.gO n1 n2 n3 n4 n5 n6 ((gW v s)))^ah n1 (ad.fY ((gW v s).w))^ah n2 (ad.jo ((gW v s).r))^ah n3 (ad.jh ((gW v s).p))^ah n4 (ad.iz ((gW v s).c))^ah n5 (ad.iT ((gW v s).b))^ah n6 (ad.fX ((gW v s).q)))^ah x (Ks.mk aO s)^ah y [.int .i64 0,.int .i64 0,.int .u64 0,.int .u64 0,.int .u64 0,.int .u64 0,.int .u64 0,.int .u64 0,.bool false,.bool false]) (λ_=>True) (λ_ w _ h=>?_) ?_
  ·have h3:=h2.Vy hs;generalize gW v s=z at*
   repeat' (first
    |(refine aH h λw h=>?_)
    |(refine ac ?_)
    |(refine ar h rfl ?_)
    |(refine aj h rfl ?_)
    |(refine aJ h ?_)
    |(refine aI h rfl ?_)
    |(refine aw h (by rfl) λw h=>?_)
    |(refine aA h λn w h=>?_)
    |(refine aN h λw h=>?_)
    |(refine aU h rfl λw h=>?_;dsimp only[dj,over]at h)
    |(refine af (yc n1 z.w) h λr w h=>?_;obtain⟨hr,h⟩:=h.aB;(try dsimp only at hr h);try rw[hr])
    |(refine af (Mt n3 z.p h3.p o (qN s) z.w.v0 h3.w.v0) h λr w h=>?_;obtain⟨hr,h⟩:=h.aB;(try dsimp only at hr h);try rw[hr]))
   have h4:fP (jW z o s):=h3.pipe;have h:au w0 S R _ ((ah b (ad.gO n1 n2 n3 n4 n5 n6 ((jW z o s)))^ah n1 (ad.fY ((jW z o s).w))^ah n2 (ad.jo ((jW z o s).r))^ah n3 (ad.jh ((jW z o s).p))^ah n4 (ad.iz ((jW z o s).c))^ah n5 (ad.iT ((jW z o s).b))^ah n6 (ad.fX ((jW z o s).q)))^ah x (Ks.mk aO s)^ah y [.int .i64 0,.int .i64 0,.int .u64 0,.int .u64 0,.int .u64 0,.int .u64 0,.int .u64 0,.int .u64 0,.bool false,.bool false]):=h.aG;generalize jW z o s=a at*
   refine af (Jh b n1 n2 n3 n4 n5 n6 a h4 s hs) h λ_ w h=>?_;have h5:=h4.m1.m2 hs;generalize sC (qJ a) s=a at*
   refine ar (x:=s) h rfl ?_;refine af (LQ b n1 n2 n3 n4 n5 n6 a h5 s hs o) h λ_ w h=>?_;have h6:fP (lM a s o):=h5.look hs;generalize lM a s o=a at*
   refine af (yR b n1 n2 n3 n4 n5 n6 a h6) h λ_ w h=>?_;have e:LX a o s tso=ej (bq (dD a) s o) s tso:=rfl;rw[e];have h7:=h6.PP;generalize dD a=a at*
   refine ar (x:=s) h rfl ?_;refine af (PZ b n1 n2 n3 n4 n5 n6 a h7 s hs o) h λ_ w h=>?_;have h8:fP (bq a s o):=h7.recover hs;generalize bq a s o=a at*
   refine ar (x:=s) h rfl ?_;refine af (Ha b n1 n2 n3 n4 n5 n6 a h8 s hs tso ht) h λ_ w h=>?_;generalize ej a s tso=a at*
   refine af (sO b n1 n2 n3 n4 n5 n6 a) h λr w h=>?_;obtain⟨hr,h⟩:=h.aB;rw[hr];refine aw h (by rfl) λw h=>?_;refine ar (x:=Ac a) h rfl ?_;exact au.aE rfl h.aG
  ·refine aK h (λ_=>(ah b (ad.gO n1 n2 n3 n4 n5 n6 v)^ah n1 (ad.fY v.w)^ah n2 (ad.jo v.r)^ah n3 (ad.jh v.p)^ah n4 (ad.iz v.c)^ah n5 (ad.iT v.b)^ah n6 (ad.fX v.q))^ah x (Ks.mk aO s)^ah y [.int .i64 0,.int .i64 0,.int .u64 0,.int .u64 0,.int .u64 0,.int .u64 0,.int .u64 0,.int .u64 0,.bool false,.bool false]) (λy:Bool=>y=decide (v.mode=2∧v.q.iO=false)) (λ(y:Bool) w hy h=>?_) ?_
   ·rw[hy];refine ae (λc=>?_) λc=>?_
    ·have c:v.mode=2∧v.q.iO=false:=bV;have e:gW v s={v with c:=cU v.c (iw s) v.b.dg (gr s) (kd s) (rD v 320) (rD v 256)}:=(by unfold gW;rw[aC c]);rw[e];repeat' (first
      |(refine aH h λw h=>?_)
      |(refine ac ?_)
      |(refine ar h rfl ?_)
      |(refine aj h rfl ?_)
      |(refine aJ h ?_)
      |(refine aI h rfl ?_)
      |(refine aw h (by rfl) λw h=>?_)
      |(refine aA h λn w h=>?_)
      |(refine aN h λw h=>?_)
      |(refine aU h rfl λw h=>?_;dsimp only[dj,over]at h)
      |(refine af (o_ n5 v.b) h λr w h=>?_;obtain⟨hr,h⟩:=h.aB;(try dsimp only at hr h);try rw[hr])
      |(refine af (yb b n1 n2 n3 n4 n5 n6 v h2 320 (aX _)) h λr w h=>?_;obtain⟨hr,h⟩:=h.aB;(try dsimp only at hr h);try rw[hr])
      |(refine af (yb b n1 n2 n3 n4 n5 n6 v h2 256 (aX _)) h λr w h=>?_;obtain⟨hr,h⟩:=h.aB;(try dsimp only at hr h);try rw[hr]))
     refine af (K3 n4 v.c h2.c (iw s) v.b.dg (gr s) (kd s) (rD v 320) (rD v 256) hs.ao) h λ_ w h=>?_;exact⟨trivial,h.aG⟩
    ·have c:¬(v.mode=2∧v.q.iO=false):=bV;have e:gW v s=v:=(by unfold gW;rw[ay c]);rw[e];exact⟨trivial,h.aG⟩
   ·repeat' (first
     |(refine aH h λw h=>?_)
     |(refine ac ?_)
     |(refine ar h rfl ?_)
     |(refine aj h rfl ?_)
     |(refine aJ h ?_)
     |(refine aI h rfl ?_)
     |(refine aw h (by rfl) λw h=>?_)
     |(refine aA h λn w h=>?_)
     |(refine aN h λw h=>?_)
     |(refine aU h rfl λw h=>?_;dsimp only[dj,over]at h))
    refine ae (λc=>?_) λc=>?_
    ·have c:v.mode=2:=bV;repeat' (first
      |(refine aH h λw h=>?_)
      |(refine ac ?_)
      |(refine ar h rfl ?_)
      |(refine aj h rfl ?_)
      |(refine aJ h ?_)
      |(refine aI h rfl ?_)
      |(refine aw h (by rfl) λw h=>?_)
      |(refine aA h λn w h=>?_)
      |(refine aN h λw h=>?_)
      |(refine aU h rfl λw h=>?_;dsimp only[dj,over]at h)
      |(refine af (Ca b n1 n2 n3 n4 n5 n6 v) h λr w h=>?_;obtain⟨hr,h⟩:=h.aB;(try dsimp only at hr h);try rw[hr]))
     exact⟨by rw[jk];simp[c],h.aG⟩
    ·have c:¬v.mode=2:=bV;exact⟨by simp[c],h.aG⟩
end
end Ra

end Go.X
