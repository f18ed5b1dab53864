/- Contracts and plain facts: ArithC Delays Ints Segs Lists. -/
import Derived.Test.YtaimlgfepkopkaaGreatB0
import Derived.Test.YtaimlgfepkopkaaGreatF0
import Derived.Test.YtaimlgfepkopkaaGreatF1
import Derived.Test.YtaimlgfepkopkaaGreatF2
import Derived.Test.YtaimlgfepkopkaaGreatF3
set_option linter.all false
namespace Go.X
open Go.Proofs
namespace bi
open bB
theorem Ir(a b:Int)(ha:U a)(hb:U b):xW Tryz.prog lh [.lf (.int .u64 a),.lf (.int .u64 b),.lf (.int .u64 (0:Int))] [.lf (.int .u64),.lf (.int .u64)] aT (λr=>bh (r=((a+b)%18446744073709551616,(a+b)/18446744073709551616)) aT):=
 Q4 (re a b 0) λw0 S R h=>by
  refine⟨⟨⟨ha.1,hb.1⟩,by omega,by omega⟩,?_⟩;rw[show a+b+(0:Int)=a+b by omega];exact au.aE rfl h.aG
theorem eJ(a b:Int)(ha:U a)(hb:U b):bm (n_ a b) aT (λr=>bh (r=bA a b) aT):=
 br λw0 S R h=>by
  refine af (Ir a b ha hb) h λr w h=>?_;obtain⟨hr,h⟩:=h.aB;rw[hr];unfold U at ha hb;refine ae (λc=>?_) λc=>?_
  ·have c:(a+b)/18446744073709551616>0:=bV;exact au.aE (by unfold bA;rw[ay (by omega)]) h.aG
  ·have c:¬(a+b)/18446744073709551616>0:=bV;exact au.aE (by unfold bA;rw[aC (by omega)];show(a+b)%18446744073709551616=_;omega) h.aG
theorem HW{a b:Int}(ha:U a)(hb:U b):IntKind.u64.wrap (a-(if b<a then b else a))=dF a b:=by
 unfold U dF at*
 split
 ·rw[ay (by omega),wu (by omega) (by omega)]
 ·rw[wu (by omega) (by omega)];split<;>omega
theorem iN(a b:Int)(ha:U a)(hb:U b):bm (yh a b) aT (λr=>bh (r=dF a b) aT):=
 br λw0 S R h=>by
  exact au.aE (HW ha hb) h.aG
theorem fz(a b:Int)(ha:U a)(hb:U b):bm (pO a b) aT (λr=>bh (r=bA a b) aT):=
 br λw0 S R h=>by
  unfold U at ha hb;rw[wu (n:=18446744073709551615-b) (by omega) (by omega)];refine ae (λc=>?_) λc=>?_
  ·have c:a>18446744073709551615-b:=bV;exact au.aE (by unfold bA;rw[ay (by omega)]) h.aG
  ·have c:¬a>18446744073709551615-b:=bV;exact au.aE (by unfold bA;rw[aC (by omega),wu (by omega) (by omega)]) h.aG
theorem jI(a b:Int)(ha:U a)(hb:U b):bm (vQ a b) aT (λr=>bh (r=dF a b) aT):=
 br λw0 S R h=>by
  unfold U at ha hb;refine ae (λc=>?_) λc=>?_
  ·have c:a<b:=bV;exact au.aE (by unfold dF;rw[aC (by omega)]) h.aG
  ·have c:¬a<b:=bV;exact au.aE (by unfold dF;rw[ay (by omega),wu (by omega) (by omega)]) h.aG
theorem vt(a b:Int)(ha:U a)(hb:U b):bm (IG a b) aT (λr=>bh (r=qK a b) aT):=
  br λw0 S R h=>by
    have hn:=ub ha.1 hb.1;unfold U at ha hb;refine ae (λc=>?_) λc=>?_
    · have c:b>0:=bV
      refine⟨by show b≠0;omega,?_⟩;have e:IntKind.u64.wrap ((18446744073709551615:Int).tdiv b)=18446744073709551615/b:=by
        rw[lP (by decide)];have h1:18446744073709551615/b≤18446744073709551615:=ze _ (by decide);exact wu (Cp (by decide) (by omega)) (by omega)
      rw[e];have key:a≤18446744073709551615/b↔a*b≤18446744073709551615:=Cg c;refine ae (λc=>?_) λc=>?_
      · have c:a>18446744073709551615/b:=bV
        exact au.aE (by unfold qK;rw[ay (by
         have:¬a≤18446744073709551615/b:=(by omega);rw[key]at this;omega)]) h.aG
      · have c:¬a>18446744073709551615/b:=bV
        have:=key.1 (by omega);exact au.aE (by unfold qK;rw[aC (by omega),wu hn (by omega)]) h.aG
    · have c:¬b>0:=bV
      have:b=0:=(by omega);subst this;exact au.aE (by unfold qK;simp[wm]) h.aG
theorem mm(x:Int):x%4294967296%18446744073709551616=x%4294967296:=by omega
theorem L3{x1 x0 y1 y0:Int}(h1:0≤x1∧x1<4294967296)(h0:0≤x0∧x0<4294967296)(g1:0≤y1∧y1<4294967296)(g0:0≤y0∧y0<4294967296):
  (0≤x1*y1∧x1*y1≤18446744065119617025)∧(0≤x1*y0∧x1*y0≤18446744065119617025)∧(0≤x0*y1∧x0*y1≤18446744065119617025)∧(0≤x0*y0∧x0*y0≤18446744065119617025):=by
 have k:∀{a b:Int},(0≤a∧a<4294967296)→(0≤b∧b<4294967296)→0≤a*b∧a*b≤18446744065119617025:=λ{a b} ha hb=>
  ⟨ub ha.1 hb.1,by
   have:=Cr (show a≤4294967295 by omega) (show b≤4294967295 by omega) hb.1 (by omega);omega⟩
 exact⟨k h1 g1,k h1 g0,k h0 g1,k h0 g0⟩
theorem A7(x y:Int):x*y=(x/4294967296*(y/4294967296))*18446744073709551616+(x/4294967296*(y%4294967296)+x%4294967296*(y/4294967296))*4294967296+x%4294967296*(y%4294967296):=by
 have hx:x=x/4294967296*4294967296+x%4294967296:=by omega
 have hy:y=y/4294967296*4294967296+y%4294967296:=by omega
 obtain⟨a,ha⟩:∃a,x/4294967296=a:=⟨_,rfl⟩;obtain⟨b,hb⟩:∃a,x%4294967296=a:=⟨_,rfl⟩;obtain⟨c,hc⟩:∃a,y/4294967296=a:=⟨_,rfl⟩;obtain⟨d,hd⟩:∃a,y%4294967296=a:=⟨_,rfl⟩;rw[ha,hb]at hx;rw[hc,hd]at hy;rw[ha,hb,hc,hd,hx,hy];simp only[Int.add_mul,Int.mul_add];have e1:a*4294967296*(c*4294967296)=a*c*18446744073709551616:=by
  rw[vg,Int.mul_left_comm 4294967296,←vg];rfl
 have e2:a*4294967296*d=a*d*4294967296:=by rw[vg,wq 4294967296,←vg]
 have e3:b*(c*4294967296)=b*c*4294967296:=by rw[←vg]
 omega
theorem A6(a b:Int)(ha:U a)(hb:U b):bm (OW a b) aT (λr=>bh (r=(a*b/18446744073709551616,a*b%18446744073709551616)) aT):=
 br λw0 S R h=>by
  refine⟨by decide,by decide,by decide,by decide,by decide,?_⟩;refine au.aE ?_ h.aG;have k:=L3 (x1:=a/4294967296) (x0:=a%4294967296) (y1:=b/4294967296) (y0:=b%4294967296) (by unfold U at ha;omega) (by omega) (by unfold U at hb;omega) (by omega);have hs:=A7 a b;simp only[Ln,Ve,wm,mm];generalize a*b=z at*
  generalize a/4294967296*(b/4294967296)=p11 at*
  generalize a/4294967296*(b%4294967296)=p10 at*
  generalize a%4294967296*(b/4294967296)=p01 at*
  generalize a%4294967296*(b%4294967296)=p00 at*
  refine wC ?_ rfl;show _=z/18446744073709551616;omega
theorem NH(a b:Int)(ha:U a)(hb:U b):bm (SZ a b) aT (λr=>bh (r=(a*b/18446744073709551616,a*b%18446744073709551616)) aT):=
 br λw0 S R h=>by
  refine⟨by decide,by decide,by decide,by decide,by decide,by decide,by decide,?_⟩;refine au.aE ?_ h.aG;have k:=L3 (x1:=a/4294967296) (x0:=a%4294967296) (y1:=b/4294967296) (y0:=b%4294967296) (by unfold U at ha;omega) (by omega) (by unfold U at hb;omega) (by omega);have hs:=A7 a b;have sh:∀q:Int,q*2^min (32:Int).toNat IntKind.u64.bits=q*4294967296:=λq=>rfl;simp only[Ln,Ve,sh];generalize a*b=z at*
  simp only[wm,mm];generalize a/4294967296*(b/4294967296)=p11 at*
  generalize a/4294967296*(b%4294967296)=p10 at*
  generalize a%4294967296*(b/4294967296)=p01 at*
  generalize a%4294967296*(b%4294967296)=p00 at*
  refine wC ?_ ?_
  ·show _=z/18446744073709551616;omega
  ·show _=z%18446744073709551616;obtain⟨A4,hmid⟩:∃A4,(p00%18446744073709551616/4294967296+p10%18446744073709551616%4294967296)%18446744073709551616+p01%18446744073709551616%4294967296=A4:=⟨_,rfl⟩;rw[hmid];have em:A4%18446744073709551616*4294967296%18446744073709551616=A4%4294967296*(2^32:Nat):=by
    show _=_*(4294967296:Int);omega
   rw[Yc 32 (A4%4294967296) (by omega) em (by unfold U;omega) (by omega) (by show _<(4294967296:Int);omega) (by unfold U;omega)];omega
def vV(h l c:Int):Int×Int:=if c=0 then(0,1)else if h≥c then(0,3)else((h*18446744073709551616+l)/c,0)
theorem p63{q:Int}{i:Nat}(hi:i<64)(h:q<2^i):q<9223372036854775808:=by
 have k:∀i:Nat,i<64→(2:Int)^i≤9223372036854775808:=by decide+kernel
 have:=k i hi;omega
theorem O_(h l c:Int)(hh:U h)(hl:U l)(hc:U c):bm (Tf h l c) aT (λr=>bh (r=vV h l c) aT):=
 br λw0 S R hO=>by
  refine ae (λc1=>?_) λc1=>?_
  ·have c1:c=0:=(by simpa using c1);exact au.aE (by unfold vV;rw[aC c1]) hO.aG
  have c1:¬c=0:=by simpa using c1
  refine ae (λc2=>?_) λc2=>?_
  ·have c2:h≥c:=gk;exact au.aE (by unfold vV;rw[ay c1,aC c2]) hO.aG
  have c2:¬h≥c:=gk;have e0:vV h l c=((h*18446744073709551616+l)/c,0):=by unfold vV;rw[ay c1,ay c2]
  rw[e0];refine cS (λ(_:tc)=>aT) (λ(y:tc)=>(0≤(y.2.2.2:Int))∧Dv (h*18446744073709551616+l) c y.2.2.1 y.1 y.2.1 y.2.2.2.toNat) (λ(y:tc)=>64-y.2.2.2.toNat) hO ⟨ku _,Dv.start hl hh.1 (by omega)⟩ ?_;rintro(⟨r,l,q,i⟩:Int×Int×Int×Int) w ⟨h0,d⟩ hO;dsimp only at h0 d hO⊢;refine ae (λc3=>?_) λc3=>?_
  ·have c3:i=64:=(by simpa using c3);rw[c3]at d;exact au.aE (by rw[d.last (by unfold U at hc;omega)]) hO.aG
  have c3:¬i=64:=by simpa using c3
  have il:=d.il;have hi:i.toNat<64:=by omega
  obtain⟨n1,n2⟩:=d.next hi;have q1:=p63 hi d.ql;have q0:=d.q0;have r0:=d.r0;have rc:=d.rc;have ul:=d.ul;have ei:(i+1).toNat=i.toNat+1:=by omega
  refine⟨by decide,by decide,by decide,by decide,by decide,?_⟩;rw[Mg ul,Mh,P8,P8,FD,wi (n:=i+1) (by omega) (by omega)];unfold U at hc ul;refine ae (λc4=>?_) λc4=>?_
  ·have c4:r/9223372036854775808=0∧2*r%18446744073709551616+l/9223372036854775808<c:=(by simpa using c4);have n:=n1 (by omega);refine⟨⟨⟨by show 0≤i+1;omega,?_⟩,hO⟩,by show 64-(i+1).toNat<64-i.toNat;omega⟩;show Dv _ c (2*q%18446744073709551616) (2*r%18446744073709551616+l/9223372036854775808) (2*l%18446744073709551616) (i+1).toNat;rw[ei,show 2*q%18446744073709551616=2*q by omega,show 2*r%18446744073709551616=2*r by omega];exact n
  ·have c4:¬(r/9223372036854775808=0∧2*r%18446744073709551616+l/9223372036854775808<c):=λhh=>by simp[hh]at c4
   have n:=n2 (by omega);refine⟨⟨⟨by show 0≤i+1;omega,?_⟩,hO⟩,by show 64-(i+1).toNat<64-i.toNat;omega⟩;show Dv _ c (2*q%18446744073709551616+1) (IntKind.u64.wrap (2*r%18446744073709551616+l/9223372036854775808-c)) (2*l%18446744073709551616) (i+1).toNat;rw[ei,wm,show 2*q%18446744073709551616=2*q by omega,show(2*r%18446744073709551616+l/9223372036854775808-c)%18446744073709551616=2*r+l/9223372036854775808-c by omega];exact n
theorem MW(h l c:Int)(hh:U h)(hl:U l)(hc:U c):bm (S4 h l c) aT (λr=>bh (r=vV h l c) aT):=
 br λw0 S R hO=>by
  refine ae (λc1=>?_) λc1=>?_
  ·have c1:c=0:=(by simpa using c1);exact au.aE (by unfold vV;rw[aC c1]) hO.aG
  have c1:¬c=0:=by simpa using c1
  refine ae (λc2=>?_) λc2=>?_
  ·have c2:h≥c:=gk;exact au.aE (by unfold vV;rw[ay c1,aC c2]) hO.aG
  have c2:¬h≥c:=gk;have e0:vV h l c=((h*18446744073709551616+l)/c,0):=by unfold vV;rw[ay c1,ay c2]
  rw[e0];refine cS (λ(_:tc)=>aT) (λ(y:tc)=>(0≤(y.2.2.2:Int))∧Dv (h*18446744073709551616+l) c y.2.1 y.2.2.1 y.1 y.2.2.2.toNat) (λ(y:tc)=>64-y.2.2.2.toNat) hO ⟨ku _,Dv.start hl hh.1 (by omega)⟩ ?_;rintro(⟨l,q,r,i⟩:Int×Int×Int×Int) w ⟨h0,d⟩ hO;dsimp only at h0 d hO⊢;have il:=d.il;refine ae (λc3=>?_) λc3=>?_
  ·have c3:i<64:=(by simpa using c3);have hi:i.toNat<64:=(by omega);obtain⟨n1,n2⟩:=d.next hi;have q1:=p63 hi d.ql;have q0:=d.q0;have r0:=d.r0;have rc:=d.rc;have ul:=d.ul;have ei:(i+1).toNat=i.toNat+1:=(by omega);refine⟨by decide,by decide,by decide,by decide,by decide,?_⟩;rw[Mg ul,Mh,P8,P8,FD,wi (n:=i+1) (by omega) (by omega)];unfold U at hc ul;refine ae (λc4=>?_) λc4=>?_
   ·have c4:r/9223372036854775808=1∨2*r%18446744073709551616+l/9223372036854775808≥c:=(by simpa using c4);have n:=n2 (by omega);refine⟨⟨⟨by show 0≤i+1;omega,?_⟩,hO⟩,by show 64-(i+1).toNat<64-i.toNat;omega⟩;show Dv _ c (2*q%18446744073709551616+1) (IntKind.u64.wrap (2*r%18446744073709551616+l/9223372036854775808-c)) (2*l%18446744073709551616) (i+1).toNat;rw[ei,wm,show 2*q%18446744073709551616=2*q by omega,show(2*r%18446744073709551616+l/9223372036854775808-c)%18446744073709551616=2*r+l/9223372036854775808-c by omega];exact n
   ·have c4:¬(r/9223372036854775808=1∨2*r%18446744073709551616+l/9223372036854775808≥c):=λhh=>by
     rcases hh with hh|hh<;>simp[hh]at c4
    have n:=n1 (by omega);refine⟨⟨⟨by show 0≤i+1;omega,?_⟩,hO⟩,by show 64-(i+1).toNat<64-i.toNat;omega⟩;show Dv _ c (2*q%18446744073709551616) (2*r%18446744073709551616+l/9223372036854775808) (2*l%18446744073709551616) (i+1).toNat;rw[ei,show 2*q%18446744073709551616=2*q by omega,show 2*r%18446744073709551616=2*r by omega];exact n
  ·have c3:¬i<64:=(by simpa using c3);rw[show i.toNat=64 by omega]at d;exact au.aE (by rw[d.last (by unfold U at hc;omega)]) hO.aG
theorem QO{a b c:Int}(ha:U a)(hb:U b)(hc:U c)(h:a*b≠0):pW a b c=if(vV (a*b/18446744073709551616) (a*b%18446744073709551616) c).2≠0 then 18446744073709551615 else(vV (a*b/18446744073709551616) (a*b%18446744073709551616) c).1:=by
 have hn:=ub ha.1 hb.1;unfold pW vV;rw[ay h];unfold U at hc;generalize a*b=z at*
 by_cases c1:c=0
 ·rw[aC c1,ay (by omega)];rfl
 ·rw[ay c1];by_cases c2:z/18446744073709551616≥c
  ·rw[aC c2,ay (by omega)];rfl
  ·rw[ay c2,aC (by omega),show z/18446744073709551616*18446744073709551616+z%18446744073709551616=z by omega];rfl
theorem Va{a b:Int}(ha:U a)(hb:U b):U (a*b/18446744073709551616):=by
 have hn:=ub ha.1 hb.1;refine⟨by omega,MR (by decide) ?_⟩;unfold U at ha hb;have:=Cr (show a≤18446744073709551615 by omega) (show b≤18446744073709551615 by omega) hb.1 (by omega);omega
theorem Vb(a:Int):U (a%18446744073709551616):=by unfold U;omega
theorem NI(a b:Int)(ha:U a)(hb:U b):bm (Te a b) aT (λr=>bh (r=(a*b/18446744073709551616,a*b%18446744073709551616)) aT):=
 br λw0 S R h=>by
  refine af (A6 a b ha hb) h λr w h=>?_;obtain⟨hr,h⟩:=h.aB;rw[hr];exact au.aE rfl h.aG
theorem Ic{z:Int}(h:((z/18446744073709551616==(0:Int))&&(z%18446744073709551616==(0:Int)))=true):z=0:=by
 simp at h;omega
theorem EQ{z:Int}(h:((z/18446744073709551616==(0:Int))&&(z%18446744073709551616==(0:Int)))=false):z≠0:=by
 rintro rfl;simp at h
theorem t8(a b c:Int)(ha:U a)(hb:U b)(hc:U c):bm (Du a b c) aT (λr=>bh (r=pW a b c) aT):=
 br λw0 S R h=>by
  refine af (NI a b ha hb) h λr w h=>?_;obtain⟨hr,h⟩:=h.aB;rw[hr];refine ae (λc1=>?_) λc1=>?_
  ·exact au.aE (by unfold pW;rw[aC (Ic c1)]) h.aG
  have hz:=EQ c1;refine af (O_ _ _ c (Va ha hb) (Vb _) hc) h λr w h=>?_;obtain⟨hr,h⟩:=h.aB;rw[hr];have hm:=QO ha hb hc hz;refine ae (λc2=>?_) λc2=>?_
  ·exact au.aE (by rw[hm,aC gk]) h.aG
  ·exact au.aE (by rw[hm,ay gk]) h.aG
theorem nl(a b c:Int)(ha:U a)(hb:U b)(hc:U c):bm (Am a b c) aT (λr=>bh (r=pW a b c) aT):=
 br λw0 S R h=>by
  refine af (NH a b ha hb) h λr w h=>?_;obtain⟨hr,h⟩:=h.aB;rw[hr];refine ae (λc1=>?_) λc1=>?_
  ·exact au.aE (by unfold pW;rw[aC (Ic c1)]) h.aG
  have hz:=EQ c1;refine af (MW _ _ c (Va ha hb) (Vb _) hc) h λr w h=>?_;obtain⟨hr,h⟩:=h.aB;rw[hr];have hm:=QO ha hb hc hz;refine ae (λc2=>?_) λc2=>?_
  ·exact au.aE (by rw[hm,aC gk]) h.aG
  ·exact au.aE (by rw[hm,ay gk]) h.aG
theorem uh(a b:Int)(ha:U a)(hb:U b):bm (KZ a b) aT (λr=>bh (r=qK a b) aT):=
 br λw0 S R h=>by
  refine af (A6 a b ha hb) h λr w h=>?_;obtain⟨hr,h⟩:=h.aB;rw[hr];have hn:=ub ha.1 hb.1;refine ae (λc=>?_) λc=>?_
  ·have c:a*b/18446744073709551616>0:=bV;exact au.aE (by unfold qK;rw[ay (by omega)]) h.aG
  ·have c:¬a*b/18446744073709551616>0:=bV;exact au.aE (by unfold qK;rw[aC (by omega)];show a*b%18446744073709551616=_;omega) h.aG
end bi

namespace f_
open bB bi
def dJ(size aQ:Int):Int:=if size<1∨aQ=18446744073709551615 then 0 else if 1000000000<pW size 1000000000 aQ then 1000000000 else pW size 1000000000 aQ
def fR(a b:Int):Int:=if(if a=0 then 18446744073709551615 else a)>(if b=0 then 18446744073709551615 else b)then(if b=0 then 18446744073709551615 else b)else(if a=0 then 18446744073709551615 else a)
theorem vU(n r:Int)(hn:n<9223372036854775808)(hr:U r):bm (Al n r) aT (λx=>bh (x=dJ n r) aT):=
 br λw0 S R h=>by
  unfold dJ;refine ae (λc=>?_) λc=>?_
  ·have c:n<1∨r=18446744073709551615:=bV;rw[aC c];exact au.aE rfl h
  have c:¬(n<1∨r=18446744073709551615):=bV;rw[ay c,wu (n:=n) (by omega) (by omega)];refine af (t8 n 1000000000 r ⟨by omega,by omega⟩ (aX _) hr) h λx w h=>?_;obtain⟨hx,h⟩:=h.aB;rw[hx];exact au.aE rfl h.fV
theorem ud(n r:Int)(hn:n<9223372036854775808)(hr:U r):bm (Ku n r) aT (λx=>bh (x=dJ n r) aT):=
 br λw0 S R h=>by
  unfold dJ;refine ae (λc=>?_) λc=>?_
  ·have c:n<1∨r=18446744073709551615:=bV;rw[aC c];exact au.aE rfl h
  have c:¬(n<1∨r=18446744073709551615):=bV;rw[ay c,wu (n:=n) (by omega) (by omega)];refine af (nl n 1000000000 r ⟨by omega,by omega⟩ (aX _) hr) h λx w h=>?_;obtain⟨hx,h⟩:=h.aB;rw[hx];exact au.aE rfl h.fV
theorem om{n r:Int}(hn:n<9223372036854775808)(hr:U r):U (dJ n r):=by
 unfold dJ;split
 ·exact aX 0
 ·rename_i c;have h:=xX (a:=n) (b:=1000000000) (c:=r) ⟨by omega,by omega⟩ (aX _) hr;split
  ·exact aX _
  ·exact h
end f_

namespace Ik
theorem Ap(s:Sl)(f:Fv)(C:SP)(xs:List (Ks.T KI))(p:Ks.T KI→Bool)(hl:xs.length≤4294967296)(hf:∀x∈xs,xo Tryz.prog f [.lf (.int .i64 x)] [.lf .bool] C (λr=>bh (r=p x) C)):
  bm (Tc s f) (C^ba s KI xs) (λr=>bh (r=fI p xs) C):=
 br λw S R h=>by
  have hsl:=(h.rd (s:=s)).2;refine cS (λ_=>C^ba s KI xs) (λ(y:Int)=>0≤y∧y.toNat≤xs.length∧∀j y',j<y.toNat→xs[j]?=some y'→p y'=false) (λ(y:Int)=>xs.length-y.toNat) h ⟨ku 0,by simp,λj _ hj=>by simp at hj⟩ ?_;rintro(y:Int) w ⟨h0,h1,h2⟩ h;refine ae (λc=>?_) λc=>?_
  ·have hy:y.toNat<xs.length:=(by simp at c;omega);refine bR h h0 hy ?_;refine eU h s y.toNat 0 _ (bT hy) rfl (by decide) (H9 (ks:=KI)) ?_;refine np (hf _ (tu hy)) h λr w h=>?_;obtain⟨hr,h⟩:=h.aB;have hw:IntKind.i64.wrap (y+1)=y+1:=wi (by omega) (by omega);refine ae (λc=>?_) λc=>?_
   ·refine au.aE ?_ h.aG;rw[DK (bT hy) (by rw[←hr];exact c) h2];exact(zc h0).symm
   ·rw[hw];refine⟨⟨⟨(by show(0:Int)≤y+1;omega),(by show(y+1).toNat≤_;omega),λj y' hj hy'=>?_⟩,h⟩,(by show _-(y+1).toNat<_;omega)⟩;have hj:j<(y+1).toNat:=hj;by_cases hjy:j=y.toNat
    ·subst hjy;rw[bT hy]at hy';cases hy';rw[←hr];exact c
    ·exact h2 j y' (by omega) hy'
  ·refine au.aE ?_ h.aG;rw[uH];intro x hx;obtain⟨j,hj,rfl⟩:=Bi.1 hx;refine h2 j _ ?_ (bT hj);simp at c;omega
theorem B0(a b:Sl)(one:Fv)(C:SP)(xs ys:List (Ks.T KI))(Q:Ks.T KI→Ks.T KI→Prop)(hl:xs.length≤4294967296)(hf:∀x∈xs,∀y∈ys,xo Tryz.prog one [.lf (.int .i64 x),.lf (.int .i64 y)] [.lf .bool] C (λr=>bh ((r=true)↔Q x y) C)):
  bm (XU a b one) (C^ba a KI xs^ba b KI ys) (λr=>bh ((r=true)↔nt Q xs ys) C):=
 br λw S R h=>by
  have ha:=(h.drop.rd (s:=a)).2;have hb:=((h.take (ba b KI ys)).rd (s:=b)).2;refine ae (λc=>?_) λc=>?_
  ·rw[ha,hb]at c;exact au.aE ⟨λh=>(by cases h),λh=>by have:=xS h;simp at c;omega⟩ h.aG
  ·rw[ha,hb]at c;have c:xs.length=ys.length:=by simp at c;omega
   refine cS (λ_=>ba a KI xs^ba b KI ys^C) (λ(i:Int)=>0≤i∧i.toNat≤xs.length∧(nt Q xs ys↔nt Q (xs.drop i.toNat) (ys.drop i.toNat))) (λ(i:Int)=>xs.length-i.toNat) h.aG ⟨ku 0,kv _,lR⟩ ?_;rintro(i:Int) w ⟨h0,h1,h2⟩ h;refine ae (λc2=>?_) λc2=>?_
   ·have hi:i.toNat<xs.length:=(by simp at c2;omega);have hi2:i.toNat<ys.length:=(by omega);refine aH h λw h=>?_;refine bR h h0 hi ?_;have hb':=h.le (fW _ _ _);refine bR hb' h0 hi2 ?_;refine dW h a i.toNat (bT hi) rfl ?_;refine dW hb' b i.toNat (bT hi2) rfl ?_;refine np (hf _ (tu hi) _ (tu hi2)) h λr w h=>?_;obtain⟨hr,h⟩:=h.aB;rw[Be hi,Be hi2,nt,←hr]at h2;refine ae (λc3=>?_) λc3=>?_
    ·have c3:r=false:=(by simpa using c3);rw[c3]at h2;exact au.aE ⟨λh=>(by cases h),λh=>by have:=(h2.1 h).1;cases this⟩ h.aG
    ·have c3:r=true:=(by simpa using c3);rw[c3]at h2;have h2:nt Q xs ys↔nt Q (xs.drop (i.toNat+1)) (ys.drop (i.toNat+1)):=h2.trans ⟨λh=>h.2,λh=>⟨rfl,h⟩⟩;have e:(i+1).toNat=i.toNat+1:=(by omega);rw[wi (by omega) (by omega)];exact⟨⟨⟨by show(0:Int)≤i+1;omega,by show(i+1).toNat≤_;omega,by show _↔nt Q (xs.drop (i+1).toNat) (ys.drop (i+1).toNat);rw[e];exact h2⟩,h.aG⟩,by show _-(i+1).toNat<_;omega⟩
   ·have hi:i.toNat=xs.length:=(by simp at c2;omega);rw[hi,zw,c,zw,nt]at h2;exact au.aE ⟨λ_=>h2.2 trivial,λ_=>rfl⟩ h.aG
theorem DS(x y:Ks.T KI):bm (c89 x y) aT (λr=>bh ((r=true)↔x=y) aT):=
 br λw S R h=>by
  repeat' (first
   |(refine aH h λw h=>?_)
   |(refine ac ?_)
   |(refine ar h rfl ?_)
   |(refine aj h rfl ?_)
   |(refine aJ h ?_)
   |(refine aI h rfl ?_)
   |(refine aw h (by rfl) λw h=>?_)
   |(refine aA h λn w h=>?_)
   |(refine aN h λw h=>?_)
   |(refine aU h rfl λw h=>?_;dsimp only[dj,over]at h))
  all_goals exact au.aE (by simp[CC]) h.fV
theorem Aq(a b:Sl)(xs ys:List (Ks.T KI))(hl:xs.length≤4294967296):
  bm (XC a b) (aT^ba a KI xs^ba b KI ys) (λr=>bh ((r=true)↔xs=ys) aT):=
 br λw S R h=>by
  refine af (B0 a b _ aT xs ys Eq hl (λx _ y _=>(xW.g (f:=jU) (args:=[.lf (.int .i64 x),.lf (.int .i64 y)]) (caps:=[]) (DS x y)).v)) h λr w h=>?_;obtain⟨hr,h⟩:=h.aB;exact au.aE (hr.trans (Bv xs ys)) h.bk
theorem yC(s:Sl)(x:Ks.T KI)(xs:List (Ks.T KI))(hl:xs.length≤4294967296):
  bm (OU s x) (aT^ba s KI xs) (λr=>bh ((r=true)↔x∈xs) aT):=
 br λw S R h=>by
  have hs:=(h.drop.rd (s:=s)).2
  skip
  refine cS (λ_=>ba s KI xs) (λ(i:Int)=>0≤i∧i.toNat≤xs.length∧(x∈xs↔x∈xs.drop i.toNat)) (λ(i:Int)=>xs.length-i.toNat) h.aG ⟨ku 0,kv _,lR⟩ ?_;rintro(i:Int) w ⟨h0,h1,h2⟩ h;refine ae (λc2=>?_) λc2=>?_
  ·have hi:i.toNat<xs.length:=(by simp at c2;omega);refine bR h h0 hi ?_;refine dW h s i.toNat (bT hi) rfl ?_;rw[Be hi,dO]at h2;refine ae (λc3=>?_) λc3=>?_
   ·have c3:xs[i.toNat]=x:=(by simpa [CC]using c3);exact au.aE ⟨λ_=>h2.2 (.inl c3.symm),λ_=>rfl⟩ h.fV
   ·have c3:¬xs[i.toNat]=x:=(by simpa [CC]using c3);have e:(i+1).toNat=i.toNat+1:=(by omega);rw[wi (by omega) (by omega)];exact⟨⟨⟨by show(0:Int)≤i+1;omega,by show(i+1).toNat≤_;omega,by show _↔x∈xs.drop (i+1).toNat;rw[e,h2];exact⟨λh=>h.elim (λh=>absurd h.symm c3) id,.inr⟩⟩,h.aG⟩,by show _-(i+1).toNat<_;omega⟩
  ·have hi:i.toNat=xs.length:=(by simp at c2;omega);rw[hi,zw]at h2;exact au.aE ⟨λh=>(by cases h),λh=>(by simp at h2;exact absurd h h2)⟩ h.fV
end Ik

namespace J1
abbrev EV:Ks:=[.int .i64,.int .u64,.int .i64,.int .u64,.bool]
theorem CM(a b:Sl)(one:Fv)(C:SP)(xs ys:List (Ks.T EV))(Q:Ks.T EV→Ks.T EV→Prop)(hl:xs.length≤4294967296)(hf:∀x∈xs,∀y∈ys,xo Tryz.prog one [.agg (Ks.mk EV x),.agg (Ks.mk EV y)] [.lf .bool] C (λr=>bh ((r=true)↔Q x y) C)):
  bm (XA a b one) (C^ba a EV xs^ba b EV ys) (λr=>bh ((r=true)↔nt Q xs ys) C):=
 br λw S R h=>by
  have ha:=(h.drop.rd (s:=a)).2;have hb:=((h.take (ba b EV ys)).rd (s:=b)).2;refine ae (λc=>?_) λc=>?_
  ·rw[ha,hb]at c;exact au.aE ⟨λh=>(by cases h),λh=>by have:=xS h;simp at c;omega⟩ h.aG
  ·rw[ha,hb]at c;have c:xs.length=ys.length:=by simp at c;omega
   refine cS (λ_=>ba a EV xs^ba b EV ys^C) (λ(i:Int)=>0≤i∧i.toNat≤xs.length∧(nt Q xs ys↔nt Q (xs.drop i.toNat) (ys.drop i.toNat))) (λ(i:Int)=>xs.length-i.toNat) h.aG ⟨ku 0,kv _,lR⟩ ?_;rintro(i:Int) w ⟨h0,h1,h2⟩ h;refine ae (λc2=>?_) λc2=>?_
   ·have hi:i.toNat<xs.length:=(by simp at c2;omega);have hi2:i.toNat<ys.length:=(by omega);refine aH h λw h=>?_;refine bR h h0 hi ?_;have hb':=h.le (fW _ _ _);refine bR hb' h0 hi2 ?_;refine dW h a i.toNat (bT hi) rfl ?_;refine dW hb' b i.toNat (bT hi2) rfl ?_;refine np (hf _ (tu hi) _ (tu hi2)) h λr w h=>?_;obtain⟨hr,h⟩:=h.aB;rw[Be hi,Be hi2,nt,←hr]at h2;refine ae (λc3=>?_) λc3=>?_
    ·have c3:r=false:=(by simpa using c3);rw[c3]at h2;exact au.aE ⟨λh=>(by cases h),λh=>by have:=(h2.1 h).1;cases this⟩ h.aG
    ·have c3:r=true:=(by simpa using c3);rw[c3]at h2;have h2:nt Q xs ys↔nt Q (xs.drop (i.toNat+1)) (ys.drop (i.toNat+1)):=h2.trans ⟨λh=>h.2,λh=>⟨rfl,h⟩⟩;have e:(i+1).toNat=i.toNat+1:=(by omega);rw[wi (by omega) (by omega)];exact⟨⟨⟨by show(0:Int)≤i+1;omega,by show(i+1).toNat≤_;omega,by show _↔nt Q (xs.drop (i+1).toNat) (ys.drop (i+1).toNat);rw[e];exact h2⟩,h.aG⟩,by show _-(i+1).toNat<_;omega⟩
   ·have hi:i.toNat=xs.length:=(by simp at c2;omega);rw[hi,zw,c,zw,nt]at h2;exact au.aE ⟨λ_=>h2.2 trivial,λ_=>rfl⟩ h.aG
theorem EE(x y:Ks.T EV):bm (c49 x y) aT (λr=>bh ((r=true)↔x=y) aT):=
 br λw S R h=>by
  repeat' (first
   |(refine aH h λw h=>?_)
   |(refine ac ?_)
   |(refine ar h rfl ?_)
   |(refine aj h rfl ?_)
   |(refine aJ h ?_)
   |(refine aI h rfl ?_)
   |(refine aw h (by rfl) λw h=>?_)
   |(refine aA h λn w h=>?_)
   |(refine aN h λw h=>?_)
   |(refine aU h rfl λw h=>?_;dsimp only[dj,over]at h))
  all_goals exact au.aE (by simp[CC]) h.fV
theorem oQ(a b:Sl)(xs ys:List (Ks.T EV))(hl:xs.length≤4294967296):
  bm (Vp a b) (aT^ba a EV xs^ba b EV ys) (λr=>bh ((r=true)↔xs=ys) aT):=
 br λw S R h=>by
  refine af (CM a b _ aT xs ys Eq hl (λx _ y _=>(xW.g (f:=iU) (args:=[.agg (Ks.mk EV x),.agg (Ks.mk EV y)]) (caps:=[]) (EE x y)).v)) h λr w h=>?_;obtain⟨hr,h⟩:=h.aB;exact au.aE (hr.trans (Bv xs ys)) h.bk
end J1

namespace ff
abbrev LV:=List Int×List Int
def jp(b:Nat)(v:LV):SP:=ex λs:Sl×Sl=>ah b [.sl s.1,.sl s.2]^aP s.1 KI v.1^aP s.2 KI v.2
instance(b:Nat)(v:LV):qq (jp b v):=by unfold jp;infer_instance
theorem _root_.Go.X.au.jp{w0 w:World}{S0 R0:Nat→Prop}{F G:SP}{v:LV}(h:au w0 S0 R0 w F)(b:Nat)[t:mR ff.jp b F v G]:∃s1 s2,au w0 S0 R0 w (ah b [.sl s1,.sl s2]^aP s1 KI v.1^aP s2 KI v.2^G):=by
 obtain⟨s,h⟩:=(h.le t.le).lX;exact⟨s.1,s.2,h.le ((cy _ _ _).trans (aZ Le.rfl (cy _ _ _)))⟩
theorem _root_.Go.X.au.D3{w0 w:World}{S0 R0:Nat→Prop}{F G:SP}(h:au w0 S0 R0 w F)(b:Nat)(s1 s2:Sl)(v:LV)[t:Take (ah b [.sl s1,.sl s2]^aP s1 KI v.1^aP s2 KI v.2) F G]:au w0 S0 R0 w (ff.jp b v^G):=
 (h.le t.le).s_ (f:=λs:Sl×Sl=>ah b [.sl s.1,.sl s.2]^aP s.1 KI v.1^aP s.2 KI v.2) (s1,s2)
def vH(v:LV):Prop:=(v.1++v.2).Nodup∧∀x∈v.1++v.2,0≤x∧x<8
theorem vH.FE{v:LV}(h:vH v):v.1.length+v.2.length≤8:=by
 have:=pn 8 (v.1++v.2) h.1 h.2;rwa[iE]at this
def bH(v:LV)(s:Int):Int:=if s∈v.1 then 1 else if s∈v.2 then 2 else 0
theorem lD{v:LV}{s:Int}:bH v s=0↔s∉v.1++v.2:=by
 unfold bH;rw[eC];split
 ·simp_all
 ·split<;>simp_all
def jX(v:LV)(s:Int)(f:Bool):Int×LV:=if s<0∨8≤s then(8,v)else if bH v s≠0 then(6,v)else if f then(0,(v.1++[s],v.2))else(0,(v.1,v.2++[s]))
def bM(v:LV):Int×Bool×Bool:=match v.1,v.2 with
 |x::_,_=>(x,true,true)
 |[],x::_=>(x,false,true)
 |[],[]=>(0,false,false)
def dm(v:LV)(s:Int):LV:=(v.1.filter (λx=>decide (x≠s)),v.2.filter (λx=>decide (x≠s)))
def jl(v:LV)(s:Int):Bool×LV:=(decide (bH v s≠0),dm v s)
def cd(v:LV):Bool×LV:=if(bM v).2.2 then(true,dm v (bM v).1)else(false,v)
def eO(v:LV):Bool×LV:=if(bM v).2.2 then(true,((dm v (bM v).1).1,(dm v (bM v).1).2++[(bM v).1]))else(false,v)
def kF(v:LV):List (Int×Bool):=v.1.map (λx=>(x,true))++v.2.map (λx=>(x,false))
theorem vH.push{v:LV}(h:vH v)(s:Int)(f:Bool):vH (jX v s f).2:=by
 unfold jX;split
 ·exact h
 ·split
  ·exact h
  ·rename_i h1 h2;have h2:s∉v.1++v.2:=lD.1 (by simpa using h2);have h3:∀x∈v.1++v.2,x≠s:=λx hx e=>h2 (e▸hx);have hs:0≤s∧s<8:=by omega
   obtain⟨hd,hr⟩:=h;rw[jE]at hd;obtain⟨d1,d2,d3⟩:=hd;split
   ·constructor
    ·show(v.1++[s]++v.2).Nodup;rw[kR,jE];refine⟨d1,by rw[Cj,kU];exact⟨λhx=>h2 (by simp[hx]),d2⟩,λa ha b hb=>?_⟩;rw[Cj,dO]at hb;rcases hb with rfl|hb
     ·exact h3 a (by simp[ha])
     ·exact d3 a ha b hb
    ·intro x hx;have hx:x∈v.1++[s]++v.2:=hx;simp only[eC,jY]at hx;rcases hx with(hx|rfl)|hx
     ·exact hr x (by simp[hx])
     ·exact hs
     ·exact hr x (by simp[hx])
   ·constructor
    ·show(v.1++(v.2++[s])).Nodup;rw[jE];refine⟨d1,?_,λa ha b hb=>?_⟩
     ·rw[jE];exact⟨d2,by simp,λa ha b hb=>by simp at hb;rw[hb];exact h3 a (by simp[ha])⟩
     ·rw[eC,jY]at hb;rcases hb with hb|rfl
      ·exact d3 a ha b hb
      ·exact h3 a (by simp[ha])
    ·intro x hx;have hx:x∈v.1++(v.2++[s]):=hx;simp only[eC,jY]at hx;rcases hx with hx|hx|rfl
     ·exact hr x (by simp[hx])
     ·exact hr x (by simp[hx])
     ·exact hs
theorem vH.out{v:LV}(h:vH v)(s:Int):vH (dm v s):=by
 have e:(dm v s).1++(dm v s).2=(v.1++v.2).filter (λx=>decide (x≠s)):=by rw[Cm];rfl
 constructor
 ·rw[e];exact h.1.filter _
 ·rw[e];intro x hx;exact h.2 x (tv.1 hx).1
theorem kO{v:LV}(h:(bM v).2.2=true):(bM v).1∈v.1++v.2:=by
 obtain⟨a,b⟩:=v;cases a with
 |cons x a=>simp[bM]
 |nil=>cases b with
  |cons x b=>simp[bM]
  |nil=>simp[bM]at h
theorem v_(v:LV)(s:Int):s∉(dm v s).1++(dm v s).2:=by simp[dm]
theorem vH.drop{v:LV}(h:vH v):vH (cd v).2:=by
 unfold cd;split
 ·exact h.out _
 ·exact h
theorem AF{v:LV}(h:vH v)(hh:(bM v).2.2=true):jX (dm v (bM v).1) (bM v).1 false=(0,(eO v).2):=by
 have hm:=h.2 _ (kO hh);rw[jX,ay (by omega),ay (by simpa using lD.2 (v_ v _)),ay (by simp),eO,aC hh]
theorem vH.back{v:LV}(h:vH v):vH (eO v).2:=by
 by_cases hh:(bM v).2.2=true
 ·have:=(h.out (bM v).1).push (bM v).1 false;rwa[AF h hh]at this
 ·rw[eO,ay hh];exact h
theorem xE{p:Int→Bool}{xs:List Int}{j:Nat}{x:Int}(h:xs[j]?=some x):(xs.take (j+1)).filter p=(xs.take j).filter p++(if p x then [x]else []):=by
 rw[lF,h,Cm];congr 1;simp[zg]
theorem Hr(s:Sl)(f:Fv)(C:SP)[qq C](xs:List Int)(p:Int→Bool)(hl:xs.length≤4294967296)(hf:∀x∈xs,xo Tryz.prog f [.lf (.int .i64 x)] [.lf .bool] C (λr=>bh (r=p x) C)):
  bm (OH s f) (C^aP s KI xs) (λr=>C^aP r KI (xs.filter (λx=>!p x))):=
 br λw S R h=>by
  have hs:=(h.drop.rd (s:=s)).2;refine bI (A:=C) (Q:=ba s KI xs) (Ik.Ap s f C xs p hl hf) h λr w h=>?_;obtain⟨hr,h⟩:=h.aB;refine ae (λc=>?_) λc=>?_
  ·have c:r=-1:=bV;have e:xs.filter (λx=>!p x)=xs:=by
    rw[zq];intro x hx;have:=Ll p xs;rw[←hr,c]at this;have h2:xs.any p=false:=this.symm;rw[List.any_eq_false]at h2;simpa using h2 x hx
   rw[e];exact h
  ·have c:r≠-1:=bV;have h0:0≤fI p xs:=by
    unfold fI at hr⊢;split at hr<;>simp_all
   have hfi:∃k:Nat,fI p xs=(k:Int)∧k<xs.length∧(∀j y,j<k→xs[j]?=some y→p y=false)∧∃x,xs[k]?=some x∧p x=true:=by
    unfold fI at h0⊢;cases hk:xs.findIdx? p with
    |none=>rw[hk]at h0;simp at h0
    |some k=>
     obtain⟨hl,hp,hn⟩:=Em.1 hk;refine⟨k,rfl,hl,λj y hj hy=>?_,xs[k],by simp,hp⟩;obtain⟨hl2,rfl⟩:=gJ.1 hy;simpa using hn j hj
   obtain⟨k,hk,hkl,hkn,x0,hx0,hp0⟩:=hfi;rw[hk]at hr;have hw0:IntKind.i64.wrap (r+1)=(k:Int)+1:=by rw[hr];exact wi (by omega) (by omega)
   rw[hw0,hr];have hpre:(xs.take k).filter (λx=>!p x)=xs.take k:=by
    rw[zq];intro x hx;obtain⟨j,hj,rfl⟩:=Bi.1 hx;rw[fM]at hj;rw[List.getElem_take,hkn j _ (by omega) (bT (by omega))];rfl
   have hin:xs.take ((k:Int)).toNat=(xs.take ((k:Int)+1).toNat).filter (λx=>!p x):=by
    rw[show((k:Int)+1).toNat=k+1 by omega,show((k:Int)).toNat=k by omega,xE hx0,hpre,hp0];simp
   refine cS (λ(y:Int×Int)=>wZ (λys:List Int=>ys.length=xs.length∧ys.take y.1.toNat=(xs.take y.2.toNat).filter (λx=>!p x)∧ys.drop y.2.toNat=xs.drop y.2.toNat) (λys=>C^aP s KI ys))
    (λ(y:Int×Int)=>0≤y.1∧y.1<y.2∧y.2≤xs.length) (λ(y:Int×Int)=>xs.length-y.2.toNat) (h.qH xs ⟨rfl,hin,rfl⟩).bk ⟨by show(0:Int)≤k;omega,by show(k:Int)<k+1;omega,by show(k:Int)+1≤_;omega⟩ ?_
   rintro(⟨i,j⟩:Int×Int) w ⟨i0,i1,i2⟩ h;dsimp only at i0 i1 i2 h⊢;obtain⟨ys,⟨y1,y2,y3⟩,h⟩:=h.Mj;refine ae (λc=>?_) λc=>?_
   ·have hj:j.toNat<xs.length:=(by simp at c;omega);have hx:=bT hj;have hj1:(j+1).toNat=j.toNat+1:=(by omega);have hi1:(i+1).toNat=i.toNat+1:=(by omega);have hyj:ys[j.toNat]?=some xs[j.toNat]:=by
     have:=jF (λz=>z[0]?) y3;rw[←hx];simpa using this
    have hd:ys.drop (j.toNat+1)=xs.drop (j.toNat+1):=by
     have:=jF (λz=>z.drop 1) y3;simpa using this
    have hw1:IntKind.i64.wrap (j+1)=j+1:=wi (by omega) (by omega);have hw2:IntKind.i64.wrap (i+1)=i+1:=wi (by omega) (by omega);refine bR h (by show 0≤j;omega) (by show j.toNat<_;omega) ?_;refine dW h s j.toNat hyj rfl ?_;refine np (hf _ (tu hj)) h λr w h=>?_;obtain⟨hr,h⟩:=h.aB;rw[hw1,hw2];refine ae (λc=>?_) λc=>?_
    ·have hp:p xs[j.toNat]=false:=(by rw[←hr];simpa using c);refine bR h i0 (by show i.toNat<_;omega) ?_;refine lT h s i.toNat 0 ys[i.toNat] xs[j.toNat] (bT (by omega)) rfl (by simp) (by simp) rfl λw h=>?_;refine⟨⟨⟨by show 0≤i+1;omega,by show i+1<j+1;omega,by show j+1≤_;omega⟩,(h.qH (ys.set i.toNat xs[j.toNat]) ⟨by simp[y1],?_,?_⟩).bk⟩,by show _-(j+1).toNat<_-j.toNat;omega⟩
     ·show _=(xs.take (j+1).toNat).filter _;show List.take (i+1).toNat _=_;rw[hi1,hj1,xE hx,←y2,lF,List.take_set_of_le (fa _),rJ (by omega),hp]
      rfl
     ·show _=xs.drop (j+1).toNat;show List.drop (j+1).toNat _=_;rw[hj1,List.drop_set_of_lt (by omega),hd]
    ·have hp:p xs[j.toNat]=true:=(by rw[←hr];simpa using c);refine⟨⟨⟨i0,by show i<j+1;omega,by show j+1≤_;omega⟩,(h.qH ys ⟨y1,?_,?_⟩).bk⟩,by show _-(j+1).toNat<_-j.toNat;omega⟩
     ·show _=(xs.take (j+1).toNat).filter _;rw[hj1,xE hx,←y2,hp];simp
     ·show List.drop (j+1).toNat _=xs.drop (j+1).toNat;rw[hj1,hd]
   ·have hj:j.toNat=xs.length:=(by simp at c;omega);have hys:ys.length=s.len:=(by omega);have hfil:xs.filter (λx=>!p x)=ys.take i.toNat:=(by rw[y2,hj,rK]);have hca:=oz (s:=s) h;refine NE (s:=s) h (h.nrm s) i.toNat ys.length s.cap rfl (by show i=_;omega) (by show ys.length=_;omega) rfl (by omega) (by omega) (by omega) (by omega) λhl8 _=>?_;refine JP (s:=s) (l:=i.toNat) (z:=(0:Int)) h rfl rfl (by omega) λw h=>?_;refine vF (s:=s) h 0 i.toNat s.cap rfl rfl (by show i=_;omega) rfl (by omega) (by simp;omega) (by omega) (by omega) λs9 _ _ h=>?_;have e:(List.take i.toNat (ys.take i.toNat++List.replicate (ys.length-i.toNat) 0)).drop 0=xs.filter (λx=>!p x):=by
     rw[wk,Mz (by simp;omega),List.take_take,Nat.min_self,hfil]
    have h:=h.eB (s:=s9) e;exact h.aG
theorem Ly(n:Int)(h0:0≤n)(h1:n≤4294967296):bm (Tb ⟨none,0,0⟩ n) aT (λr=>aP r KI []):=
 br λw S R h=>by
  have h:=h.nil KI;refine aK h (λ_=>aP ⟨none,0,0⟩ KI []) (λ_=>True) (λy w _ h=>?_) ?_
  ·have e1:IntKind.i64.wrap (((0:Nat):Int)-((0:Nat):Int))=0:=rfl;have e2:IntKind.i64.wrap (n-0)=n:=(by rw[Int.sub_zero];exact wi (by omega) (by omega));show aq (decide (IntKind.i64.wrap (n-IntKind.i64.wrap (((0:Nat):Int)-((0:Nat):Int)))>0)) _ _ w;refine ae (λc=>?_) λc=>?_
   ·refine vF (s:=⟨none,0,0⟩) h 0 0 0 rfl rfl rfl rfl (by omega) (by simp) (by omega) (by simp) λs3 hl3 hc3 h=>?_;show N4 _ 1 s3 (IntKind.i64.wrap (n-IntKind.i64.wrap (((0:Nat):Int)-((0:Nat):Int)))) _ w;rw[e1,e2];refine Us (s:=s3) (z:=(0:Int)) h rfl rfl h0 (by simp;omega) λs4 w hl4 h=>?_;have hc:=oz (s:=s4) h;refine vF (s:=s4) h 0 0 s4.cap rfl rfl rfl rfl (by omega) (by omega) (by omega) (by omega) λs5 hl5 hc5 h=>?_;have h:=h.eB (s:=s5) (ys:=[]) (by simp);exact h.bk
   ·exact h
  ·refine ae (λc=>?_) λc=>?_
   ·exfalso;simp at c;omega
   ·exact⟨trivial,h.bk⟩
theorem Fu(n:Nat)(a b:Sl)(xs ys:List Int)(hl:xs.length+ys.length≤4294967296):
  bm (SM ⟨some ⟨n,0⟩,2,2⟩) (aP ⟨some ⟨n,0⟩,2,2⟩ [.sl] [a,b]^ba a KI xs^ba b KI ys) (λr=>aP r KI (xs++ys)):=
 br λw S R h=>by
  have ha:=(h.drop.rd (s:=a)).2;have hb:=((h.drop.le (aV _ _)).rd (s:=b)).2;refine cS (λ_=>aP ⟨some ⟨n,0⟩,2,2⟩ [.sl] [a,b]^ba a KI xs^ba b KI ys) (λ(y:Int×Int)=>(y.2=0∧y.1=0)∨(y.2=1∧y.1=xs.length)∨(y.2=2∧y.1=xs.length+ys.length)) (λ(y:Int×Int)=>(2-y.2).toNat) h (.inl ⟨rfl,rfl⟩) ?_;rintro(⟨z,i⟩:Int×Int) w hz h;dsimp only at hz⊢;refine ae (λc=>?_) λc=>?_
  ·have hi:i=0∨i=1:=(by simp at c;omega);have hg:∃q:Sl,[a,b][i.toNat]?=some q∧((i=0∧q.len=xs.length)∨(i=1∧q.len=ys.length)):=by
    rcases hi with rfl|rfl
    ·exact⟨a,rfl,.inl ⟨rfl,ha⟩⟩
    ·exact⟨b,rfl,.inr ⟨rfl,hb⟩⟩
   obtain⟨q,hq,hql⟩:=hg;refine bR h (by omega) (by simp;omega) ?_;refine dW h ⟨some ⟨n,0⟩,2,2⟩ i.toNat hq rfl ?_;have hw:IntKind.i64.wrap (z+(q.len:Int))=z+q.len:=wi (by omega) (by omega);rw[hw,wi (n:=i+1) (by omega) (by omega)];refine ae (λc=>by simp at c;omega) λc=>?_;refine⟨⟨?_,h⟩,by show(2-(i+1)).toNat<(2-i).toNat;omega⟩;show(i+1=0∧_)∨(i+1=1∧z+(q.len:Int)=_)∨(i+1=2∧z+(q.len:Int)=_);omega
  ·have hi:i=2:=(by simp at c;omega);have hz:z=xs.length+ys.length:=(by omega);refine af (Ly z (by omega) (by omega)) (h.le ((aF _).trans (aV _ _))) λr w h=>?_;obtain⟨g,g0,g1,g2⟩:∃g:Int→List Int,g 0=[]∧g 1=xs∧g 2=xs++ys:=⟨λi=>if i=0 then []else if i=1 then xs else xs++ys,by simp,by simp,by simp⟩;have h:=h.eB (s:=r) (K:=KI) (ys:=g 0) g0.symm;refine cS (λ(y:Sl×Int)=>aP y.1 KI (g y.2)^aP ⟨some ⟨n,0⟩,2,2⟩ [.sl] [a,b]^ba a KI xs^ba b KI ys) (λ(y:Sl×Int)=>0≤y.2∧y.2≤2) (λ(y:Sl×Int)=>(2-y.2).toNat) h ⟨by simp,by simp⟩ ?_;rintro(⟨s,i⟩:Sl×Int) w ⟨i0,i1⟩ h;dsimp only at i0 i1 h⊢;refine ae (λc=>?_) λc=>?_
   ·have hi:i=0∨i=1:=(by simp at c;omega);have h':=h.le (fW _ _ _);rcases hi with rfl|rfl
    ·refine bR h' (by omega) (by simp) ?_;refine dW h' ⟨some ⟨n,0⟩,2,2⟩ 0 rfl rfl ?_;refine dE (x:=a) h rfl (by rw[g0];simp;omega) λs10 w _ h=>?_;have e:IntKind.i64.wrap (0+1)=1:=rfl;rw[e];have h:=h.eB (s:=s10) (K:=KI) (ys:=g 1) (by rw[g0,g1,oE]);exact⟨⟨⟨by simp,by simp⟩,h⟩,by simp⟩
    ·refine bR h' (by omega) (by simp) ?_;refine dW h' ⟨some ⟨n,0⟩,2,2⟩ 1 rfl rfl ?_;have hb2:Rd b (aP s KI (g 1)^aP ⟨some ⟨n,0⟩,2,2⟩ [.sl] [a,b]^ba a KI xs^ba b KI ys) KI ys:=⟨λw S R h=>by
      obtain⟨_,_,_,_,_,⟨_,_,_,_,_,⟨_,_,_,_,_,h,_⟩,_⟩,_⟩:=h;exact h.1,λw S R h hne q hq=>by
      obtain⟨_,_,_,_,_,⟨_,_,_,_,_,⟨_,_,_,_,_,h,_,hR3,_⟩,_,hR2,_⟩,_,hR1,_⟩:=h;exact .inr ((hR1 _).2 (.inr ((hR2 _).2 (.inr ((hR3 _).2 (.inr ((h.2.2 _).2 ⟨⟨q,hq,rfl⟩,hne⟩)))))))⟩
     refine dE (x:=b) (r:=hb2) h rfl (by rw[g1];omega) λs10 w _ h=>?_;have e:IntKind.i64.wrap (1+1)=2:=rfl;rw[e];have h:=h.eB (s:=s10) (K:=KI) (ys:=g 2) (by rw[g1,g2]);exact⟨⟨⟨by simp,by simp⟩,h⟩,by simp⟩
   ·have hi:i=2:=(by simp at c;omega);have h:=h.eB (s:=s) (K:=KI) (ys:=xs++ys) (by rw[hi,g2]);exact h.aG
def uV(n:Nat):Fv:=.mk (.func jt) [] [V1.enc (.lf (.ptr (some ⟨n,0⟩)))]
theorem iJ(p:Option Pt):bm (Kw p) aT (λf=>ex λn=>bh (f=uV n) (ah n [.ptr p])):=
 br λw S R h=>by
  refine aA h λn1 w h=>?_;exact au.gX n1 (au.aE rfl h.bk)
theorem Hg{v:LV}{i:Nat}{x:Int}(h:(v.1++v.2)[i]?=some x):(kF v)[i]?=some (x,decide ((i:Int)<(v.1.length:Int))):=by
 unfold kF;by_cases hi:i<v.1.length
 ·rw[oB hi]at h;rw[oB (by simpa using hi),oD,h];simp[hi]
 ·rw[tn (by omega)]at h;rw[tn (by simp;omega),oD,kT,h];simp;omega
theorem x4(v:LV):(kF v).length=v.1.length+v.2.length:=by simp[kF]
theorem lq(n b:Nat)(v:LV)(hl:v.1.length+v.2.length≤4294967296):Iter Tryz.prog (uV n) (ah n [.ptr (some ⟨b,0⟩)]^jp b v) [.lf (.int .i64),.lf .bool] (kF v):=by
 intro y I D hy;refine xW.g (f:=jt) (args:=[.lf (.fn y)]) (caps:=[.lf (.ptr (some ⟨n,0⟩))]) (br (c:=Vn y ⟨n,0⟩) λw S R h=>?_);refine aj h rfl ?_;refine ae (λc=>(by cases c)) λc=>?_;refine aj h rfl ?_;obtain⟨s1,s2,h⟩:=h.jp b;have hs1:=((h.take (aP s1 KI v.1)).rd (s:=s1)).2;refine ac (aj h rfl ?_);refine aH h λw h=>?_;refine aj h rfl (aj h rfl (ac (ac (aj h rfl (aj h rfl ?_)))));refine aA h λn11 w h=>?_;have h:=h.cT n11 [.sl] [s1,s2] rfl (by simp);have h:=(h.take (ah b [.sl s1,.sl s2]^aP s1 KI v.1^aP s2 KI v.2^aP ⟨some ⟨n11,0⟩,2,2⟩ [.sl] [s1,s2]^ah n [.ptr (some ⟨b,0⟩)]^I 0)).bk;refine bI (A:=aP ⟨some ⟨n11,0⟩,2,2⟩ [.sl] [s1,s2]) (Q:=ba s1 KI v.1^ba s2 KI v.2) (Fu n11 s1 s2 v.1 v.2 hl) h λr w h=>?_;have hr:=(h.rd (s:=r)).2;have h:=h.D3 b s1 s2 v;have h:au _ _ _ _ (aP r KI (v.1++v.2)^jp b v^ah n [.ptr (some ⟨b,0⟩)]^I 0):=h.aG;have hlen:(v.1++v.2).length=v.1.length+v.2.length:=iE;refine cS (λ(i:Int)=>aP r KI (v.1++v.2)^jp b v^ah n [.ptr (some ⟨b,0⟩)]^I i.toNat) (λ(i:Int)=>0≤i∧i.toNat≤(v.1++v.2).length) (λ(i:Int)=>(v.1++v.2).length-i.toNat) h ⟨ku 0,by simp⟩ ?_;rintro(i:Int) w ⟨h0,h1⟩ h;refine ae (λc=>?_) λc=>?_
 ·have hi:i.toNat<(v.1++v.2).length:=by simp at c;omega
  refine bR h h0 hi ?_;obtain⟨x,hx⟩:∃x,(v.1++v.2)[i.toNat]?=some x:=⟨_,bT hi⟩;refine dW h r i.toNat hx rfl ?_;have ha:=Hg hx;have hii:((i.toNat:Nat):Int)=i:=zc h0;rw[hii,←hs1]at ha;have ht:xo Tryz.prog y [.lf (.int .i64 x),.lf (.bool (decide (i<(s1.len:Int))))] [.lf .bool] (I i.toNat) (λc=>cond c (I (i.toNat+1)) D):=hy i.toNat (x,decide (i<(s1.len:Int))) ha;refine np ht h λc w h=>?_;cases c with
  |false=>
   refine ae (λc=>?_) λc=>by cases c
   have h:au _ _ _ _ (D^_):=h;have h:=h.xz (I (kF v).length);exact h.aG
  |true=>
   refine ae (λc=>by cases c) λc=>?_;have h:au _ _ _ _ (I (i.toNat+1)^_):=h;rw[wi (by omega) (by omega)];have e:(i+1).toNat=i.toNat+1:=by omega
   refine⟨⟨⟨(by show(0:Int)≤i+1;omega),(by show(i+1).toNat≤_;omega)⟩,?_⟩,(by show _-(i+1).toNat<_;omega)⟩;show au _ _ _ _ (aP r KI (v.1++v.2)^jp b v^ah n [.ptr (some ⟨b,0⟩)]^I (i+1).toNat);rw[e];exact h.aG
 ·have hi:i.toNat=(kF v).length:=by rw[x4];simp at c;omega
  rw[hi]at h;have h:=h.take (I (kF v).length);have h:=h.uE D;exact h.aG
theorem Dj{v:LV}{i:Nat}{x:Int×Bool}(h:(kF v)[i]?=some x):(i<v.1.length∧v.1[i]?=some x.1∧x.2=true)∨(v.1.length≤i∧v.2[i-v.1.length]?=some x.1∧x.2=false):=by
 unfold kF at h;by_cases hi:i<v.1.length
 ·rw[oB (by simpa using hi),oD]at h;obtain⟨y,hy,rfl⟩:=MN.1 h;exact .inl ⟨hi,hy,rfl⟩
 ·rw[tn (by simp;omega),oD,kT]at h;obtain⟨y,hy,rfl⟩:=MN.1 h;exact .inr ⟨by omega,hy,rfl⟩
theorem Mn{v:LV}{i:Nat}{x:Int×Bool}(h:(kF v)[i]?=some x)(hn:∀j y,j<i→(kF v)[j]?=some y→y.1≠x.1):bH v x.1=if x.2 then 1 else 2:=by
 rcases Dj h with⟨hi,h1,h2⟩|⟨hi,h1,h2⟩
 ·rw[bH,aC (vd.2 ⟨_,h1⟩),h2];rfl
 ·rw[bH,ay,aC (vd.2 ⟨_,h1⟩),h2];rfl;intro hm;obtain⟨j,hj⟩:=vd.1 hm;have hjl:j<v.1.length:=(gJ.1 hj).1;refine hn j (x.1,true) (by omega) ?_ rfl;unfold kF;rw[oB (by simpa using hjl),oD,hj];rfl
theorem F3{v:LV}{s:Int}(hn:∀j y,j<(kF v).length→(kF v)[j]?=some y→y.1≠s):bH v s=0:=by
 rw[lD];intro hm;obtain⟨j,hj⟩:=vd.1 hm;have hjl:j<(v.1++v.2).length:=(gJ.1 hj).1;exact hn j _ (by rw[x4];rw[iE]at hjl;exact hjl) (Hg hj) rfl
theorem sF(b:Nat)(v:LV)(s:Int)(hl:v.1.length+v.2.length≤4294967296):bm (Kq (some ⟨b,0⟩) s) (jp b v) (λr=>bh (r=bH v s) (jp b v)):=
 Q3 λw S R h=>by
  refine aA h λn1 w h=>?_;refine aA h λn2 w h=>?_;refine af (iJ _) (h.le (aF _)) λf w h=>?_;obtain⟨n,h⟩:=h.lX;obtain⟨hf,h⟩:=h.aB;rw[hf];have h:=(h.take (ah n1 [.int .i64 s]^ah n2 [.int .i64 0])).iF (p:=∀j y,j<0→(kF v)[j]?=some y→y.1≠s) (λj y hj=>by omega);refine oF (lq n b v hl) (λi=>bh (∀j y,j<i→(kF v)[j]?=some y→y.1≠s) (ah n1 [.int .i64 s]^ah n2 [.int .i64 0])) (λj=>bh (j=1) (ah n1 [.int .i64 s]^ah n2 [.int .i64 (bH v s)])) h ?_ ?_ ?_
  ·rintro i (x:Int×Bool) hx w S R A4 next jump rdy bsy hmid hnext hjump h
   refine hmid h λw h=>?_;have h:=h.take (bh (∀j y,j<i→(kF v)[j]?=some y→y.1≠s) (ah n1 [.int .i64 s]^ah n2 [.int .i64 0]));obtain⟨hno,h⟩:=h.aB;refine aj h rfl ?_;refine ae (λc=>?_) λc=>?_
   ·have c:x.1≠s:=bV;have h:=(h.take (ah n1 [.int .i64 s]^ah n2 [.int .i64 0])).iF (p:=∀j y,j<i+1→(kF v)[j]?=some y→y.1≠s) (λj y hj hy=>by
     by_cases hji:j=i
     ·rw[hji,hx]at hy;cases hy;exact c
     ·exact hno j y (by omega) hy)
    exact hnext h
   ·have c:x.1=s:=bV;have hp:=Mn hx (by rw[c];exact hno);rw[c]at hp;refine ae (λc2=>?_) λc2=>?_
    ·refine aU h rfl λw h=>?_;dsimp only[dj,over]at h;rw[c2,aC rfl]at hp;rw[←hp]at h;have h:=(h.take (ah n1 [.int .i64 s]^ah n2 [.int .i64 (bH v s)])).iF (p:=1=1) rfl;exact hjump 1 (by decide) h
    ·refine aU h rfl λw h=>?_;dsimp only[dj,over]at h;have c2:x.2=false:=c2;rw[c2,ay (by simp)]at hp;rw[←hp]at h;have h:=(h.take (ah n1 [.int .i64 s]^ah n2 [.int .i64 (bH v s)])).iF (p:=1=1) rfl;exact hjump 1 (by decide) h
  ·intro w h;have h:=h.take (bh (∀j y,j<(kF v).length→(kF v)[j]?=some y→y.1≠s) (ah n1 [.int .i64 s]^ah n2 [.int .i64 0]));obtain⟨hno,h⟩:=h.aB;refine aU h rfl λw h=>?_;dsimp only[dj,over]at h;refine aj h rfl ?_;refine aN h λw h=>?_;exact au.aE (F3 hno).symm h.aG
  ·intro j w hj h;have h:=h.take (bh (j=1) (ah n1 [.int .i64 s]^ah n2 [.int .i64 (bH v s)]));obtain⟨hj1,h⟩:=h.aB;rw[hj1];refine aj h rfl ?_;refine aN h λw h=>?_;exact au.aE rfl h.aG
theorem DP(v:LV):bM v=match kF v with|x::_=>(x.1,x.2,true)|[]=>(0,false,false):=by
 obtain⟨a,c⟩:=v;cases a with
 |cons x a=>rfl
 |nil=>cases c with
  |cons x c=>rfl
  |nil=>rfl
theorem yw(b:Nat)(v:LV)(hl:v.1.length+v.2.length≤4294967296):bm (Kn (some ⟨b,0⟩)) (jp b v) (λr=>bh (r=bM v) (jp b v)):=
 Q3 λw S R h=>by
  refine aA h λn1 w h=>?_;refine aA h λn2 w h=>?_;refine aA h λn3 w h=>?_;refine aK h (λ_=>ah n1 [.int .i64 0]^ah n2 [.bool false]^ah n3 [.bool false]^jp b v) (λ_=>bM v=(0,false,false)) (λy w hv h=>?_) ?_
  ·refine aU h rfl λw h=>?_;dsimp only[dj,over]at h;refine aU h rfl λw h=>?_;dsimp only[dj,over]at h;refine aU h rfl λw h=>?_;dsimp only[dj,over]at h;refine aj h rfl (aj h rfl (aj h rfl ?_));refine aN h λw h=>?_;exact au.aE hv.symm h.aG
  ·refine af (iJ _) (h.le (aF _)) λf w h=>?_;obtain⟨n,h⟩:=h.lX;obtain⟨hf,h⟩:=h.aB;rw[hf];have h:=(h.take (ah n1 [.int .i64 0]^ah n2 [.bool false]^ah n3 [.bool false])).iF (p:=(0:Nat)=0) rfl;refine oF (lq n b v hl) (λi=>bh (i=0) (ah n1 [.int .i64 0]^ah n2 [.bool false]^ah n3 [.bool false])) (λj=>bh (j=1) (ah n1 [.int .i64 (bM v).1]^ah n2 [.bool (bM v).2.1]^ah n3 [.bool (bM v).2.2])) h ?_ ?_ ?_
   ·rintro i (x:Int×Bool) hx w S R A4 next jump rdy bsy hmid hnext hjump h
    refine hmid h λw h=>?_;have h:=h.take (bh (i=0) (ah n1 [.int .i64 0]^ah n2 [.bool false]^ah n3 [.bool false]));obtain⟨hi,h⟩:=h.aB;have hv:bM v=(x.1,x.2,true):=by
     rw[DP];rw[hi]at hx;cases ha:kF v with
     |nil=>rw[ha]at hx;cases hx
     |cons y l=>rw[ha]at hx;cases hx;rfl
    rw[hv]at hjump;refine aU h rfl λw h=>?_;dsimp only[dj,over]at h;refine aU h rfl λw h=>?_;dsimp only[dj,over]at h;refine aU h rfl λw h=>?_;dsimp only[dj,over]at h;have h:=(h.take (ah n1 [.int .i64 x.1]^ah n2 [.bool x.2]^ah n3 [.bool true])).iF (p:=1=1) rfl;exact hjump 1 (by decide) h
   ·intro w h;have h:=h.take (bh ((kF v).length=0) (ah n1 [.int .i64 0]^ah n2 [.bool false]^ah n3 [.bool false]));obtain⟨hno,h⟩:=h.aB;refine⟨?_,h.aG⟩;rw[DP,jD hno]
   ·intro j w hj h;have h:=h.take (bh (j=1) (ah n1 [.int .i64 (bM v).1]^ah n2 [.bool (bM v).2.1]^ah n3 [.bool (bM v).2.2]));obtain⟨hj1,h⟩:=h.aB;rw[hj1];refine aj h rfl (aj h rfl (aj h rfl ?_));refine aN h λw h=>?_;exact au.aE rfl h.aG
theorem jj:bm XK aT (λr=>ex λb=>bh (r=some ⟨b,0⟩) (jp b ([],[]))):=
 br λw S R h=>by
  refine aA h λn1 w h=>?_;exact au.gX n1 (au.aE rfl (((h.nil KI).nil KI).D3 n1 ⟨none,0,0⟩ ⟨none,0,0⟩ ([],[])).bk)
theorem pr(b:Nat)(v:LV)(s:Int)(f:Bool)(hl:v.1.length+v.2.length≤4294967295):
  bm (Kv (some ⟨b,0⟩) s f) (jp b v) (λr=>bh (r=(jX v s f).1) (jp b (jX v s f).2)):=
 br λw S R h=>by
  refine ae (λc=>(by cases c)) λc=>?_;refine ae (λc=>?_) λc=>?_
  ·have c:s<0∨8≤s:=bV;rw[jX,aC c];exact au.aE rfl h
  ·have c:¬(s<0∨8≤s):=(by simp at c;omega);rw[jX,ay c];refine af (sF b v s (by omega)) (h.le (aF _)) λr w h=>?_;obtain⟨hr,h⟩:=h.aB;refine ae (λc2=>?_) λc2=>?_
   ·rw[aC (by rw[←hr];simpa using c2)];exact au.aE rfl h.bk
   ·rw[ay (by rw[←hr];simpa using c2)];obtain⟨s1,s2,h⟩:=h.jp b;refine ae (λc3=>?_) λc3=>?_
    ·rw[aC c3];refine ac (aj h rfl ?_);refine aA h λn w h=>?_;have h:=h.cT n KI [s] rfl (by simp);refine dE (s:=s1) (x:=⟨some ⟨n,0⟩,1,1⟩) h rfl (by simp;omega) λs' w _ h=>?_;refine ac (aU h rfl λw h=>?_);dsimp only[dj,over]at h;exact au.aE rfl (h.D3 b s' s2 (v.1++[s],v.2)).bk
    ·have c3:f=false:=c3;rw[c3,ay (by simp)];refine ac (aj h rfl ?_);refine aA h λn w h=>?_;have h:=h.cT n KI [s] rfl (by simp);refine dE (s:=s2) (x:=⟨some ⟨n,0⟩,1,1⟩) h rfl (by simp;omega) λs' w _ h=>?_;refine ac (aU h rfl λw h=>?_);dsimp only[dj,over]at h;exact au.aE rfl (h.D3 b s1 s' (v.1,v.2++[s])).bk
theorem PI(n:Nat)(x s:Int):bm (Vo x ⟨n,0⟩) (ah n [.int .i64 s]) (λr=>bh (r=(x==s)) (ah n [.int .i64 s])):=
 br λw S R h=>by
  refine aj h rfl ?_;exact au.aE rfl h
theorem ug(b:Nat)(v:LV)(s:Int)(hl:v.1.length+v.2.length≤4294967296):
  bm (Kx (some ⟨b,0⟩) s) (jp b v) (λr=>bh (r=(jl v s).1) (jp b (jl v s).2)):=
 br λw S R h=>by
  refine aA h λn w h=>?_;refine aj h rfl ?_;refine af (sF b v s hl) h λr w h=>?_;obtain⟨hr,h⟩:=h.aB;refine ae (λc=>?_) λc=>?_
  ·have c:bH v s=0:=(by rw[←hr];simpa using c);have hm:=lD.1 c;have e:(jl v s).2=v:=by
    obtain⟨a,d⟩:=v;simp only[jl,dm,eC,qa]at hm⊢
    congr 1
    ·rw[zq];intro x hx;exact kV λe=>hm.1 (e▸hx)
    ·rw[zq];intro x hx;exact kV λe=>hm.2 (e▸hx)
   rw[e,jl,c];exact au.aE (by simp) h.bk
  ·have c:bH v s≠0:=(by rw[←hr];simpa using c);refine aH h λw h=>?_;obtain⟨s1,s2,h⟩:=h.jp b;refine ac (ac (aj h rfl (aj h rfl ?_)));have hf:∀x:Int,xo Tryz.prog (.mk (.func fH) [] [V1.enc (.lf (.ptr (some ⟨n,0⟩)))]) [.lf (.int .i64 x)] [.lf .bool] (ah n [.int .i64 s]) (λr=>bh (r=(x==s)) (ah n [.int .i64 s])):=λx=>
    (xW.g (f:=fH) (args:=[.lf (.int .i64 x)]) (caps:=[.lf (.ptr (some ⟨n,0⟩))]) (PI n x s)).v
   have eq (l:List Int):l.filter (λx=>!(x==s))=l.filter (λx=>decide (x≠s)):=by
    congr 1;funext x;by_cases hx:x=s<;>simp[hx]
   refine af (Hr s1 _ (ah n [.int .i64 s]) v.1 (λx=>x==s) (by omega) (λx _=>hf x)) h λr1 w h=>?_;refine aI h rfl ?_;refine af (Hr s2 _ (ah n [.int .i64 s]) v.2 (λx=>x==s) (by omega) (λx _=>hf x)) h λr2 w h=>?_;refine ac (aU h rfl λw h=>?_);dsimp only[dj,over]at h;refine ac (aU h rfl λw h=>?_);dsimp only[dj,over]at h;rw[eq,eq]at h;exact au.aE (by simp[jl,c]) (h.D3 b r1 r2 (v.1.filter (λx=>decide (x≠s)),v.2.filter (λx=>decide (x≠s)))).bk
theorem Ps{v:LV}(h:(bM v).2.2=false):v=([],[]):=by
 obtain⟨a,c⟩:=v;cases a with
 |cons x a=>cases h
 |nil=>cases c with
  |cons x c=>cases h
  |nil=>rfl
theorem xg{v:LV}(h:(bM v).2.2=true):jl v (bM v).1=(true,dm v (bM v).1):=by
 have:=kO h;have h2:bH v (bM v).1≠0:=λe=>lD.1 e this;rw[jl,kV h2]
theorem nI(b:Nat)(v:LV)(hl:v.1.length+v.2.length≤4294967296):
  bm (Oe (some ⟨b,0⟩)) (jp b v) (λr=>bh (r=(cd v).1) (jp b (cd v).2)):=
 br λw S R h=>by
  refine af (yw b v hl) (h.le (aF _)) λr w h=>?_;obtain⟨hr,h⟩:=h.aB;rw[hr,cd];refine ae (λc=>?_) λc=>?_
  ·rw[aC c];refine af (ug b v _ hl) h λr w h=>?_;rw[xg c]at h;obtain⟨hr,h⟩:=h.aB;exact au.aE hr h.bk
  ·rw[ay (by rw[c];simp)];exact au.aE rfl h.bk
theorem q_(b:Nat)(v:LV)(ho:vH v):
  bm (Od (some ⟨b,0⟩)) (jp b v) (λr=>bh (r=(eO v).1) (jp b (eO v).2)):=
 br λw S R h=>by
  have hl:=ho.FE;refine af (yw b v (by omega)) (h.le (aF _)) λr w h=>?_;obtain⟨hr,h⟩:=h.aB;rw[hr];refine ae (λc=>?_) λc=>?_
  ·refine af (ug b v _ (by omega)) h λr w h=>?_;rw[xg c]at h;obtain⟨hr,h⟩:=h.aB;refine ae (λ_=>?_) λc=>by rw[hr]at c;cases c
   have hl2:=(ho.out (bM v).1).FE;refine af (pr b (dm v (bM v).1) (bM v).1 false (by omega)) h λr w h=>?_;rw[AF ho c]at h;obtain⟨hr,h⟩:=h.aB;exact au.aE (by rw[hr,eO,aC c];rfl) h.bk
  ·rw[eO,ay (by rw[c];simp)];exact au.aE rfl h.bk
theorem tx(s:Sl)(xs:List Int)(x:Int)(hl:xs.length≤4294967296):bm (OO s x) (aT^ba s KI xs) (λr=>aP r KI (xs.filter (λy=>decide (y≠x)))):=
 br λw S R h=>by
  have hs:=(h.drop.rd (s:=s)).2;have h:=h.nil KI;have h:au _ _ _ _ (aP ⟨none,0,0⟩ KI []^ba s KI xs):=h.aG;refine cS (λ(y:Sl×Int)=>aP y.1 KI ((xs.take y.2.toNat).filter (λy=>decide (y≠x)))^ba s KI xs) (λ(y:Sl×Int)=>0≤y.2∧y.2.toNat≤xs.length) (λ(y:Sl×Int)=>xs.length-y.2.toNat) h ⟨by simp,by simp⟩ ?_;rintro(⟨r,i⟩:Sl×Int) w ⟨h0,h1⟩ h;dsimp only at h0 h1 h⊢;refine ae (λc=>?_) λc=>?_
  ·have hi:i.toNat<xs.length:=(by simp at c;omega);have hx:=bT hi;have e:(i+1).toNat=i.toNat+1:=(by omega);have hk:=xE (p:=λy=>decide (y≠x)) hx;have h':=h.le (aV _ _);rw[wi (n:=i+1) (by omega) (by omega)];refine bR h' h0 hi ?_;refine dW h' s i.toNat hx rfl ?_;refine ae (λc2=>?_) λc2=>?_
   ·have c2:xs[i.toNat]≠x:=gk;rw[aC (kV c2)]at hk;refine bR h' h0 hi ?_;refine dW h' s i.toNat hx rfl ?_;refine aA h λn w h=>?_;have h:=h.cT n KI [xs[i.toNat]] rfl (by simp);have hb:(List.filter (λy=>decide (y≠x)) (xs.take i.toNat)).length+[xs[i.toNat]].length≤4294967296:=by
     have hfl:=y_ (λy=>decide (y≠x)) (xs.take i.toNat);rw[fM]at hfl;rw[qy];omega
    refine dE (s:=r) (x:=⟨some ⟨n,0⟩,1,1⟩) h rfl hb λs' w _ h=>?_;have h:=h.eB (s:=s') (K:=KI) (ys:=(xs.take (i+1).toNat).filter (λy=>decide (y≠x))) (by rw[e,hk]);exact⟨⟨⟨by show 0≤i+1;omega,by show(i+1).toNat≤_;omega⟩,h.aG⟩,by show _-(i+1).toNat<_;omega⟩
   ·have c2:xs[i.toNat]=x:=gk;rw[ay (by simp[c2]),rM]at hk;have h:=h.eB (s:=r) (K:=KI) (ys:=(xs.take (i+1).toNat).filter (λy=>decide (y≠x))) (by rw[e,hk]);exact⟨⟨⟨by show 0≤i+1;omega,by show(i+1).toNat≤_;omega⟩,h⟩,by show _-(i+1).toNat<_;omega⟩
  ·have hi:i.toNat=xs.length:=(by simp at c;omega);rw[hi,rK]at h;exact h.bk
end ff

end Go.X
