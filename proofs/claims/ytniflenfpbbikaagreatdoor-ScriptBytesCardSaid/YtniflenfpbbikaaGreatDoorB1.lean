/- Contracts. -/
import Derived.Test.YtniflenfpbbikaaGreatDoorB0
import Derived.Test.YtniflenfpbbikaaGreatDoorF0
import Derived.Test.YtniflenfpbbikaaGreatDoorF1
import Derived.Test.YtniflenfpbbikaaGreatDoorF2
import Derived.Test.YtniflenfpbbikaaGreatDoorF3
set_option linter.all false
set_option autoImplicit true
set_option relaxedAutoImplicit true
namespace Go.X
open IntKind (u64 i64)
open Go.Proofs
namespace bp
open bK
theorem Jt(a b:Int)(ha:U a)(hb:U b):wF Tryz.prog lK [.lf (.int .u64 a),.lf (.int .u64 b),.lf (.int .u64 (0:Int))] [.lf (.int .u64),.lf (.int .u64)] bg (λr=>br (r=((a+b)%18446744073709551616,(a+b)/18446744073709551616)) bg):=
 Th (rS a b 0) λw0 S R h=>by
  refine⟨⟨⟨ha.1,hb.1⟩,by omega,by omega⟩,?_⟩;rw[show a+b+(0:Int)=a+b by omega];exact au.aH rfl h.aK
theorem e_(a b:Int)(ha:U a)(hb:U b):bx (oL a b) bg (λr=>br (r=bH a b) bg):=
 bF λw0 S R h=>by
  refine aI (Jt a b ha hb) h λw h=>?_;unfold U at ha hb;refine ae (λc=>?_) λc=>?_
  ·have c:(a+b)/18446744073709551616>0:=cS;exact au.aH (by unfold bH;rw[aw (by omega)]) h.aK
  ·have c:¬(a+b)/18446744073709551616>0:=cS;exact au.aH (by unfold bH;rw[aF (by omega)];show(a+b)%18446744073709551616=_;omega) h.aK
theorem I2{a b:Int}(ha:U a)(hb:U b):u64.wrap (a-(if b<a then b else a))=dV a b:=by
 unfold U dV at*
 split
 ·rw[aw (by omega),iy]
 ·rw[iy];split<;>omega
theorem jk(a b:Int)(ha:U a)(hb:U b):bx (y8 a b) bg (λr=>br (r=dV a b) bg):=
 bF λw0 S R h=>by exact au.aH (I2 ha hb) h.aK
theorem fL(a b:Int)(ha:U a)(hb:U b):bx (qF a b) bg (λr=>br (r=bH a b) bg):=
 bF λw0 S R h=>by
  unfold U at ha hb;rw[iy (n:=18446744073709551615-b)];refine ae (λc=>?_) λc=>?_
  ·have c:a>18446744073709551615-b:=cS;exact au.aH (by unfold bH;rw[aw (by omega)]) h.aK
  ·have c:¬a>18446744073709551615-b:=cS;exact au.aH (by unfold bH;rw[aF (by omega),iy]) h.aK
theorem kd(a b:Int)(ha:U a)(hb:U b):bx (wY a b) bg (λr=>br (r=dV a b) bg):=
 bF λw0 S R h=>by
  unfold U at ha hb;refine ae (λc=>?_) λc=>?_
  ·have c:a<b:=cS;exact au.aH (by unfold dV;rw[aF (by omega)]) h.aK
  ·have c:¬a<b:=cS;exact au.aH (by unfold dV;rw[aw (by omega),iy]) h.aK
theorem wg(a b:Int)(ha:U a)(hb:U b):bx (JK a b) bg (λr=>br (r=rv a b) bg):=
  bF λw0 S R h=>by
    have hn:=uI ha.1 hb.1;unfold U at ha hb;refine ae (λc=>?_) λc=>?_
    · have c:b>0:=cS
      refine⟨by show b≠0;omega,?_⟩;have e:u64.wrap ((18446744073709551615:Int).tdiv b)=18446744073709551615/b:=by
        rw[l_ (by decide)];have h1:18446744073709551615/b≤18446744073709551615:=Ae _ (by decide);exact wu (Dr (by decide) (by omega)) (by omega)
      rw[e];have key:a≤18446744073709551615/b↔a*b≤18446744073709551615:=De c;refine ae (λc=>?_) λc=>?_
      · have c:a>18446744073709551615/b:=cS
        exact au.aH (by unfold rv;rw[aw (by
         have:¬a≤18446744073709551615/b:=(by omega);rw[key]at this;omega)]) h.aK
      · have c:¬a>18446744073709551615/b:=cS
        have:=key.1 (by omega);exact au.aH (by unfold rv;rw[aF (by omega),wu hn (by omega)]) h.aK
    · have c:¬b>0:=cS
      have:b=0:=(by omega);subst this;exact au.aH (by unfold rv;simp[wm]) h.aK
theorem mm(x:Int):x%4294967296%18446744073709551616=x%4294967296:=by omega
theorem Nl{x1 x0 y1 y0:Int}(h1:0≤x1∧x1<4294967296)(h0:0≤x0∧x0<4294967296)(g1:0≤y1∧y1<4294967296)(g0:0≤y0∧y0<4294967296):
  (0≤x1*y1∧x1*y1≤18446744065119617025)∧(0≤x1*y0∧x1*y0≤18446744065119617025)∧(0≤x0*y1∧x0*y1≤18446744065119617025)∧(0≤x0*y0∧x0*y0≤18446744065119617025):=by
 have k:∀{a b:Int},(0≤a∧a<4294967296)→(0≤b∧b<4294967296)→0≤a*b∧a*b≤18446744065119617025:=λ{a b} ha hb=>
  ⟨uI ha.1 hb.1,by
   have:=Dt (show a≤4294967295 by omega) (show b≤4294967295 by omega) hb.1 (by omega);omega⟩
 exact⟨k h1 g1,k h1 g0,k h0 g1,k h0 g0⟩
theorem B1(x y:Int):x*y=(x/4294967296*(y/4294967296))*18446744073709551616+(x/4294967296*(y%4294967296)+x%4294967296*(y/4294967296))*4294967296+x%4294967296*(y%4294967296):=by
 have hx:x=x/4294967296*4294967296+x%4294967296:=by omega
 have hy:y=y/4294967296*4294967296+y%4294967296:=by omega
 obtain⟨a,ha⟩:∃a,x/4294967296=a:=⟨_,rfl⟩;obtain⟨b,hb⟩:∃a,x%4294967296=a:=⟨_,rfl⟩;obtain⟨c,hc⟩:∃a,y/4294967296=a:=⟨_,rfl⟩;obtain⟨d,hd⟩:∃a,y%4294967296=a:=⟨_,rfl⟩;rw[ha,hb]at hx;rw[hc,hd]at hy;rw[ha,hb,hc,hd,hx,hy];simp only[Int.add_mul,Int.mul_add];have e1:a*4294967296*(c*4294967296)=a*c*18446744073709551616:=by rw[vY,Int.mul_left_comm 4294967296,←vY];rfl
 have e2:a*4294967296*d=a*d*4294967296:=by rw[vY,xz 4294967296,←vY]
 have e3:b*(c*4294967296)=b*c*4294967296:=by rw[←vY]
 omega
theorem B0(a b:Int)(ha:U a)(hb:U b):bx (Qu a b) bg (λr=>br (r=(a*b/18446744073709551616,a*b%18446744073709551616)) bg):=
 bF λw0 S R h=>by
  refine⟨by decide,by decide,by decide,by decide,by decide,?_⟩;refine au.aH ?_ h.aK;have k:=Nl (x1:=a/4294967296) (x0:=a%4294967296) (y1:=b/4294967296) (y0:=b%4294967296) (by unfold U at ha;omega) (by omega) (by unfold U at hb;omega) (by omega);have hs:=B1 a b;simp only[ME,XA,wm,mm];generalize a*b=z at*
  generalize a/4294967296*(b/4294967296)=p11 at*
  generalize a/4294967296*(b%4294967296)=p10 at*
  generalize a%4294967296*(b/4294967296)=p01 at*
  generalize a%4294967296*(b%4294967296)=p00 at*
  refine sA ?_ rfl;show _=z/18446744073709551616;omega
theorem Ph(a b:Int)(ha:U a)(hb:U b):bx (UW a b) bg (λr=>br (r=(a*b/18446744073709551616,a*b%18446744073709551616)) bg):=
 bF λw0 S R h=>by
  refine⟨by decide,by decide,by decide,by decide,by decide,by decide,by decide,?_⟩;refine au.aH ?_ h.aK;have k:=Nl (x1:=a/4294967296) (x0:=a%4294967296) (y1:=b/4294967296) (y0:=b%4294967296) (by unfold U at ha;omega) (by omega) (by unfold U at hb;omega) (by omega);have hs:=B1 a b;have sh:∀q:Int,q*2^min (32:Int).toNat u64.bits=q*4294967296:=λq=>rfl;simp only[ME,XA,sh];generalize a*b=z at*
  simp only[wm,mm];generalize a/4294967296*(b/4294967296)=p11 at*
  generalize a/4294967296*(b%4294967296)=p10 at*
  generalize a%4294967296*(b/4294967296)=p01 at*
  generalize a%4294967296*(b%4294967296)=p00 at*
  refine sA ?_ ?_
  ·show _=z/18446744073709551616;omega
  ·show _=z%18446744073709551616;obtain⟨BX,hmid⟩:∃BX,(p00%18446744073709551616/4294967296+p10%18446744073709551616%4294967296)%18446744073709551616+p01%18446744073709551616%4294967296=BX:=⟨_,rfl⟩;rw[hmid];have em:BX%18446744073709551616*4294967296%18446744073709551616=BX%4294967296*(2^32:Nat):=by
    show _=_*(4294967296:Int);omega
   rw[or1 32 (BX%4294967296) (by omega) em (by unfold U;omega) (by omega) (by show _<(4294967296:Int);omega) (by unfold U;omega)];omega
def w_(h l c:Int):Int×Int:=if c=0 then(0,1)else if h≥c then(0,3)else((h*18446744073709551616+l)/c,0)
theorem p63{q:Int}{i:Nat}(hi:i<64)(h:q<2^i):q<9223372036854775808:=by
 have k:∀i:Nat,i<64→(2:Int)^i≤9223372036854775808:=by decide+kernel
 have:=k i hi;omega
theorem QM(h l c:Int)(hh:U h)(hl:U l)(hc:U c):bx (Vb h l c) bg (λr=>br (r=w_ h l c) bg):=
 bF λw0 S R hO=>by
  refine ae (λc1=>?_) λc1=>?_
  ·have c1:c=0:=(by simpa using c1);exact au.aH (by unfold w_;rw[aF c1]) hO.aK
  have c1:¬c=0:=by simpa using c1
  refine ae (λc2=>?_) λc2=>?_
  ·have c2:h≥c:=gJ;exact au.aH (by unfold w_;rw[aw c1,aF c2]) hO.aK
  have c2:¬h≥c:=gJ;have e0:w_ h l c=((h*18446744073709551616+l)/c,0):=by unfold w_;rw[aw c1,aw c2]
  rw[e0];refine cZ (λ(_:xR)=>bg) (λ(y:xR)=>(0≤(y.2.2.2:Int))∧Dv (h*18446744073709551616+l) c y.2.2.1 y.1 y.2.1 y.2.2.2.toNat) (λ(y:xR)=>64-y.2.2.2.toNat) hO ⟨ig _,Dv.start hl hh.1 (by omega)⟩ ?_;rintro(⟨r,l,q,i⟩:Int×Int×Int×Int) w ⟨h0,d⟩ hO;dsimp only at h0 d hO⊢;refine ae (λc3=>?_) λc3=>?_
  ·have c3:i=64:=(by simpa using c3);rw[c3]at d;exact au.aH (by rw[d.last (by unfold U at hc;omega)]) hO.aK
  have c3:¬i=64:=by simpa using c3
  have il:=d.il;have hi:i.toNat<64:=by omega
  obtain⟨n1,n2⟩:=d.next hi;have q1:=p63 hi d.ql;have q0:=d.q0;have r0:=d.r0;have rc:=d.rc;have ul:=d.ul;have ei:(i+1).toNat=i.toNat+1:=by omega
  refine⟨by decide,by decide,by decide,by decide,by decide,?_⟩;rw[Nx ul,Ny,RU,RU,GB,fu (n:=i+1)];unfold U at hc ul;refine ae (λc4=>?_) λc4=>?_
  ·have c4:r/9223372036854775808=0∧2*r%18446744073709551616+l/9223372036854775808<c:=(by simpa using c4);have n:=n1 (by omega);refine⟨⟨⟨by show 0≤i+1;omega,?_⟩,hO⟩,by show 64-(i+1).toNat<64-i.toNat;omega⟩;show Dv _ c (2*q%18446744073709551616) (2*r%18446744073709551616+l/9223372036854775808) (2*l%18446744073709551616) (i+1).toNat;rw[ei,show 2*q%18446744073709551616=2*q by omega,show 2*r%18446744073709551616=2*r by omega];exact n
  ·have c4:¬(r/9223372036854775808=0∧2*r%18446744073709551616+l/9223372036854775808<c):=λhh=>by simp[hh]at c4
   have n:=n2 (by omega);refine⟨⟨⟨by show 0≤i+1;omega,?_⟩,hO⟩,by show 64-(i+1).toNat<64-i.toNat;omega⟩;show Dv _ c (2*q%18446744073709551616+1) (u64.wrap (2*r%18446744073709551616+l/9223372036854775808-c)) (2*l%18446744073709551616) (i+1).toNat;rw[ei,wm,show 2*q%18446744073709551616=2*q by omega,show(2*r%18446744073709551616+l/9223372036854775808-c)%18446744073709551616=2*r+l/9223372036854775808-c by omega];exact n
theorem Of(h l c:Int)(hh:U h)(hl:U l)(hc:U c):bx (UX h l c) bg (λr=>br (r=w_ h l c) bg):=
 bF λw0 S R hO=>by
  refine ae (λc1=>?_) λc1=>?_
  ·have c1:c=0:=(by simpa using c1);exact au.aH (by unfold w_;rw[aF c1]) hO.aK
  have c1:¬c=0:=by simpa using c1
  refine ae (λc2=>?_) λc2=>?_
  ·have c2:h≥c:=gJ;exact au.aH (by unfold w_;rw[aw c1,aF c2]) hO.aK
  have c2:¬h≥c:=gJ;have e0:w_ h l c=((h*18446744073709551616+l)/c,0):=by unfold w_;rw[aw c1,aw c2]
  rw[e0];refine cZ (λ(_:xR)=>bg) (λ(y:xR)=>(0≤(y.2.2.2:Int))∧Dv (h*18446744073709551616+l) c y.2.1 y.2.2.1 y.1 y.2.2.2.toNat) (λ(y:xR)=>64-y.2.2.2.toNat) hO ⟨ig _,Dv.start hl hh.1 (by omega)⟩ ?_;rintro(⟨l,q,r,i⟩:Int×Int×Int×Int) w ⟨h0,d⟩ hO;dsimp only at h0 d hO⊢;have il:=d.il;refine ae (λc3=>?_) λc3=>?_
  ·have c3:i<64:=(by simpa using c3);have hi:i.toNat<64:=(by omega);obtain⟨n1,n2⟩:=d.next hi;have q1:=p63 hi d.ql;have q0:=d.q0;have r0:=d.r0;have rc:=d.rc;have ul:=d.ul;have ei:(i+1).toNat=i.toNat+1:=(by omega);refine⟨by decide,by decide,by decide,by decide,by decide,?_⟩;rw[Nx ul,Ny,RU,RU,GB,fu (n:=i+1)];unfold U at hc ul;refine ae (λc4=>?_) λc4=>?_
   ·have c4:r/9223372036854775808=1∨2*r%18446744073709551616+l/9223372036854775808≥c:=(by simpa using c4);have n:=n2 (by omega);refine⟨⟨⟨by show 0≤i+1;omega,?_⟩,hO⟩,by show 64-(i+1).toNat<64-i.toNat;omega⟩;show Dv _ c (2*q%18446744073709551616+1) (u64.wrap (2*r%18446744073709551616+l/9223372036854775808-c)) (2*l%18446744073709551616) (i+1).toNat;rw[ei,wm,show 2*q%18446744073709551616=2*q by omega,show(2*r%18446744073709551616+l/9223372036854775808-c)%18446744073709551616=2*r+l/9223372036854775808-c by omega];exact n
   ·have c4:¬(r/9223372036854775808=1∨2*r%18446744073709551616+l/9223372036854775808≥c):=λhh=>by rcases hh with hh|hh<;>simp[hh]at c4
    have n:=n1 (by omega);refine⟨⟨⟨by show 0≤i+1;omega,?_⟩,hO⟩,by show 64-(i+1).toNat<64-i.toNat;omega⟩;show Dv _ c (2*q%18446744073709551616) (2*r%18446744073709551616+l/9223372036854775808) (2*l%18446744073709551616) (i+1).toNat;rw[ei,show 2*q%18446744073709551616=2*q by omega,show 2*r%18446744073709551616=2*r by omega];exact n
  ·have c3:¬i<64:=(by simpa using c3);rw[show i.toNat=64 by omega]at d;exact au.aH (by rw[d.last (by unfold U at hc;omega)]) hO.aK
theorem SU{a b c:Int}(ha:U a)(hb:U b)(hc:U c)(h:a*b≠0):qI a b c=if(w_ (a*b/18446744073709551616) (a*b%18446744073709551616) c).2≠0 then 18446744073709551615 else(w_ (a*b/18446744073709551616) (a*b%18446744073709551616) c).1:=by
 have hn:=uI ha.1 hb.1;unfold qI w_;rw[aw h];unfold U at hc;generalize a*b=z at*
 by_cases c1:c=0
 ·rw[aF c1,aw (by omega)];rfl
 ·rw[aw c1];by_cases c2:z/18446744073709551616≥c
  ·rw[aF c2,aw (by omega)];rfl
  ·rw[aw c2,aF (by omega),show z/18446744073709551616*18446744073709551616+z%18446744073709551616=z by omega];rfl
theorem Xw{a b:Int}(ha:U a)(hb:U b):U (a*b/18446744073709551616):=by
 have hn:=uI ha.1 hb.1;refine⟨by omega,N9 (by decide) ?_⟩;unfold U at ha hb;have:=Dt (show a≤18446744073709551615 by omega) (show b≤18446744073709551615 by omega) hb.1 (by omega);omega
theorem Xx(a:Int):U (a%18446744073709551616):=by unfold U;omega
theorem Pj(a b:Int)(ha:U a)(hb:U b):bx (Va a b) bg (λr=>br (r=(a*b/18446744073709551616,a*b%18446744073709551616)) bg):=
 bF λw0 S R h=>by
  refine aI (B0 a b ha hb) h λw h=>?_;exact au.aH rfl h.aK
theorem Jl{z:Int}(h:((z/18446744073709551616==(0:Int))&&(z%18446744073709551616==(0:Int)))=true):z=0:=by simp at h;omega
theorem F1{z:Int}(h:((z/18446744073709551616==(0:Int))&&(z%18446744073709551616==(0:Int)))=false):z≠0:=by rintro rfl;simp at h
theorem uD(a b c:Int)(ha:U a)(hb:U b)(hc:U c):bx (Ex a b c) bg (λr=>br (r=qI a b c) bg):=
 bF λw0 S R h=>by
  refine aI (Pj a b ha hb) h λw h=>?_;refine ae (λc1=>?_) λc1=>?_
  ·exact au.aH (by unfold qI;rw[aF (Jl c1)]) h.aK
  have hz:=F1 c1;refine aI (QM _ _ c (Xw ha hb) (Xx _) hc) h λw h=>?_;have hm:=SU ha hb hc hz;refine ae (λc2=>?_) λc2=>?_
  ·exact au.aH (by rw[hm,aF gJ]) h.aK
  ·exact au.aH (by rw[hm,aw gJ]) h.aK
theorem nY(a b c:Int)(ha:U a)(hb:U b)(hc:U c):bx (Bh a b c) bg (λr=>br (r=qI a b c) bg):=
 bF λw0 S R h=>by
  refine aI (Ph a b ha hb) h λw h=>?_;refine ae (λc1=>?_) λc1=>?_
  ·exact au.aH (by unfold qI;rw[aF (Jl c1)]) h.aK
  have hz:=F1 c1;refine aI (Of _ _ c (Xw ha hb) (Xx _) hc) h λw h=>?_;have hm:=SU ha hb hc hz;refine ae (λc2=>?_) λc2=>?_
  ·exact au.aH (by rw[hm,aF gJ]) h.aK
  ·exact au.aH (by rw[hm,aw gJ]) h.aK
theorem uP(a b:Int)(ha:U a)(hb:U b):bx (Mi a b) bg (λr=>br (r=rv a b) bg):=
 bF λw0 S R h=>by
  refine aI (B0 a b ha hb) h λw h=>?_;have hn:=uI ha.1 hb.1;refine ae (λc=>?_) λc=>?_
  ·have c:a*b/18446744073709551616>0:=cS;exact au.aH (by unfold rv;rw[aw (by omega)]) h.aK
  ·have c:¬a*b/18446744073709551616>0:=cS;exact au.aH (by unfold rv;rw[aF (by omega)];show a*b%18446744073709551616=_;omega) h.aK
end bp

namespace Zl
open bK
abbrev Cf:=Int×Int×Int×Int×Int×Int×Bool×Int×Int
abbrev KC:Ks:=[.int .i64,.int .i64,.int .i64,.int .i64,.int .u64,.int .u64,.bool,.int .i64,.int .i64]
abbrev cQ(c:Cf):Int:=c.1
abbrev cF(c:Cf):Int:=c.2.1
abbrev cL(c:Cf):Int:=c.2.2.1
abbrev cW(c:Cf):Int:=c.2.2.2.1
abbrev cH(c:Cf):Int:=c.2.2.2.2.1
abbrev cR(c:Cf):Int:=c.2.2.2.2.2.1
abbrev cD(c:Cf):Bool:=c.2.2.2.2.2.2.1
abbrev jU(c:Cf):Int:=c.2.2.2.2.2.2.2.1
abbrev jz(c:Cf):Int:=c.2.2.2.2.2.2.2.2
def may(c:Cf):Bool:=decide (100≤cQ c∧cQ c≤65536)&&(decide (100≤cF c∧cF c≤65536)&&(decide (1≤cL c∧cL c≤512)&&(decide (1≤cW c∧cW c≤512)&&(decide (cH c≤4611686018427387904)&&(decide (1≤jU c∧jU c≤1073741824)&&decide (100≤jz c∧jz c≤9000))))))
structure yq(c:Cf):Prop where
 q:100≤cQ c∧cQ c≤65536
 f:100≤cF c∧cF c≤65536
 l:1≤cL c∧cL c≤512
 w:1≤cW c∧cW c≤512
 h:0≤cH c∧cH c≤4611686018427387904
 r:U (cR c)
 cap:1≤jU c∧jU c≤1073741824
 bs:100≤jz c∧jz c≤9000
abbrev pE:Cf:=(3000,15000,100,50,10000000000,0,false,100000,1000)
end Zl

namespace ik
open bK bp
def dZ(size aY:Int):Int:=if size<1∨aY=18446744073709551615 then 0 else if 1000000000<qI size 1000000000 aY then 1000000000 else qI size 1000000000 aY
def gq(a b:Int):Int:=if(if a=0 then 18446744073709551615 else a)>(if b=0 then 18446744073709551615 else b)then(if b=0 then 18446744073709551615 else b)else(if a=0 then 18446744073709551615 else a)
theorem w9(n r:Int)(hn:n<9223372036854775808)(hr:U r):bx (Be n r) bg (λx=>br (x=dZ n r) bg):=
 bF λw0 S R h=>by
  unfold dZ;refine ae (λc=>?_) λc=>?_
  ·have c:n<1∨r=18446744073709551615:=cS;rw[aF c];exact au.aH rfl h
  have c:¬(n<1∨r=18446744073709551615):=cS;rw[aw c,iy (n:=n)];refine aq (uD n 1000000000 r ⟨by omega,by omega⟩ (bh _) hr) h λx w h=>?_;obtain⟨hx,h⟩:=h.aP;rw[hx];exact au.aH rfl h.h_
theorem uK(n r:Int)(hn:n<9223372036854775808)(hr:U r):bx (LS n r) bg (λx=>br (x=dZ n r) bg):=
 bF λw0 S R h=>by
  unfold dZ;refine ae (λc=>?_) λc=>?_
  ·have c:n<1∨r=18446744073709551615:=cS;rw[aF c];exact au.aH rfl h
  have c:¬(n<1∨r=18446744073709551615):=cS;rw[aw c,iy (n:=n)];refine aq (nY n 1000000000 r ⟨by omega,by omega⟩ (bh _) hr) h λx w h=>?_;obtain⟨hx,h⟩:=h.aP;rw[hx];exact au.aH rfl h.h_
theorem oU{n r:Int}(hn:n<9223372036854775808)(hr:U r):U (dZ n r):=by
 unfold dZ;split
 ·exact bh 0
 ·rename_i c;have h:=yR (a:=n) (b:=1000000000) (c:=r) ⟨by omega,by omega⟩ (bh _) hr;split
  ·exact bh _
  ·exact h
end ik

namespace PB
theorem Bj(s f C xs p)(hl:xs.length≤4294967296)(hf:∀x∈xs,Ba Tryz.prog f [.lf (.int .i64 x)] [.lf .bool] C (λr=>br (r=p x) C)):
  bx (U9 s f) (C^aZ s KI xs) (λr=>br (r=fI p xs) C):=
 bF λw S R h=>by
  have hsl:=(h.rd (s:=s)).2;refine cZ (λ_=>C^aZ s KI xs) (λ(y:Int)=>0≤y∧y.toNat≤xs.length∧∀j y',j<y.toNat→xs[j]?=some y'→p y'=false) (λ(y:Int)=>xs.length-y.toNat) h ⟨ig 0,by simp,λj _ hj=>by simp at hj⟩ ?_;rintro(y:Int) w ⟨h0,h1,h2⟩ h;refine ae (λc=>?_) λc=>?_
  ·have hy:y.toNat<xs.length:=(by simp at c;omega);refine bT h h0 hy ?_;refine eh h s y.toNat 0 _ (bV hy) rfl (by decide) (Jg (ks:=KI)) ?_;refine qU (hf _ (xv hy)) h λr w h=>?_;obtain⟨hr,h⟩:=h.aP;have hw:i64.wrap (y+1)=y+1:=fu;refine ae (λc=>?_) λc=>?_
   ·refine au.aH ?_ h.aK;rw[EM (bV hy) (by rw[←hr];exact c) h2];exact(Aa h0).symm
   ·rw[hw];refine⟨⟨⟨(by show(0:Int)≤y+1;omega),(by show(y+1).toNat≤_;omega),λj y' hj hy'=>?_⟩,h⟩,(by show _-(y+1).toNat<_;omega)⟩;have hj:j<(y+1).toNat:=hj;by_cases hjy:j=y.toNat
    ·subst hjy;rw[bV hy]at hy';cases hy';rw[←hr];exact c
    ·exact h2 j y' (by omega) hy'
  ·refine au.aH ?_ h.aK;rw[vr];intro x hx;obtain⟨j,hj,rfl⟩:=B6.1 hx;refine h2 j _ ?_ (bV hj);simp at c;omega
theorem zt(s x xs)(hl:xs.length≤4294967296):
  bx (Qs s x) (bg^aZ s KI xs) (λr=>br ((r=true)↔x∈xs) bg):=
 bF λw S R h=>by
  have hs:=(h.drop.rd (s:=s)).2
  skip
  refine cZ (λ_=>aZ s KI xs) (λ(i:Int)=>0≤i∧i.toNat≤xs.length∧(x∈xs↔x∈xs.drop i.toNat)) (λ(i:Int)=>xs.length-i.toNat) h.aK ⟨ig 0,iW _,mC⟩ ?_;rintro(i:Int) w ⟨h0,h1,h2⟩ h;refine ae (λc2=>?_) λc2=>?_
  ·have hi:i.toNat<xs.length:=(by simp at c2;omega);refine bT h h0 hi ?_;refine eE h s i.toNat (bV hi) rfl ?_;rw[NW hi,dY]at h2;refine ae (λc3=>?_) λc3=>?_
   ·have c3:xs[i.toNat]=x:=(by simpa [Prod.ext_iff]using c3);exact au.aH ⟨λ_=>h2.2 (.inl c3.symm),λ_=>rfl⟩ h.h_
   ·have c3:¬xs[i.toNat]=x:=(by simpa [Prod.ext_iff]using c3);have e:(i+1).toNat=i.toNat+1:=(by omega);rw[fu];exact⟨⟨⟨by show(0:Int)≤i+1;omega,by show(i+1).toNat≤_;omega,by show _↔x∈xs.drop (i+1).toNat;rw[e,h2];exact⟨λh=>h.elim (λh=>absurd h.symm c3) id,.inr⟩⟩,h.aK⟩,by show _-(i+1).toNat<_;omega⟩
  ·have hi:i.toNat=xs.length:=(by simp at c2;omega);rw[hi,Hj]at h2;exact au.aH ⟨λh=>(by cases h),λh=>(by simp at h2;exact absurd h h2)⟩ h.h_
end PB

namespace f_
abbrev LV:=List Int×List Int
def jN(b:Nat)(v:LV):SP:=ex λs:Sl×Sl=>ah b [aX s.1,aX s.2]^aQ s.1 KI v.1^aQ s.2 KI v.2
instance(b:Nat)(v:LV):nt (jN b v):=by unfold jN;infer_instance
theorem _root_.Go.X.au.jN(h:au w0 S0 R0 w F)(b)[t:ou f_.jN b F v G]:∃s1 s2,au w0 S0 R0 w (ah b [aX s1,aX s2]^aQ s1 KI v.1^aQ s2 KI v.2^G):=by
 obtain⟨s,h⟩:=(h.le t.le).lS;exact⟨s.1,s.2,h.le ((bS _ _ _).trans (ba Le.rfl (bS _ _ _)))⟩
theorem _root_.Go.X.au.E7(h:au w0 S0 R0 w F)(b s1 s2 v)[t:Take (ah b [aX s1,aX s2]^aQ s1 KI v.1^aQ s2 KI v.2) F G]:au w0 S0 R0 w (f_.jN b v^G):=
 (h.le t.le).tH (f:=λs:Sl×Sl=>ah b [aX s.1,aX s.2]^aQ s.1 KI v.1^aQ s.2 KI v.2) (s1,s2)
def wG(v:LV):Prop:=(v.1++v.2).Nodup∧∀x∈v.1++v.2,0≤x∧x<8
theorem wG.GC(h:wG v):v.1.length+v.2.length≤8:=by
 have:=qj 8 (v.1++v.2) h.1 h.2;rwa[eQ]at this
def bY(v:LV)(s:Int):Int:=if s∈v.1 then 1 else if s∈v.2 then 2 else 0
theorem lX{s:Int}:bY v s=0↔s∉v.1++v.2:=by
 unfold bY;rw[dX];split
 ·simp_all
 ·split<;>simp_all
def kE(v:LV)(s:Int)(f:Bool):Int×LV:=if s<0∨8≤s then(8,v)else if bY v s≠0 then(6,v)else if f then(0,(v.1++[s],v.2))else(0,(v.1,v.2++[s]))
def bP(v:LV):Int×Bool×Bool:=match v.1,v.2 with
 |x::_,_=>(x,true,true)
 |[],x::_=>(x,false,true)
 |[],[]=>(0,false,false)
def dI(v:LV)(s:Int):LV:=(v.1.filter (λx=>decide (x≠s)),v.2.filter (λx=>decide (x≠s)))
def jI(v:LV)(s:Int):Bool×LV:=(decide (bY v s≠0),dI v s)
def cj(v:LV):Bool×LV:=if(bP v).2.2 then(true,dI v (bP v).1)else(false,v)
def eO(v:LV):Bool×LV:=if(bP v).2.2 then(true,((dI v (bP v).1).1,(dI v (bP v).1).2++[(bP v).1]))else(false,v)
def lm(v:LV):List (Int×Bool):=v.1.map (λx=>(x,true))++v.2.map (λx=>(x,false))
theorem wG.push(h:wG v)(s:Int)(f):wG (kE v s f).2:=by
 unfold kE;split
 ·exact h
 ·split
  ·exact h
  ·rename_i h1 h2;have h2:s∉v.1++v.2:=lX.1 (by simpa using h2);have h3:∀x∈v.1++v.2,x≠s:=λx hx e=>h2 (e▸hx);have hs:0≤s∧s<8:=by omega
   obtain⟨hd,hr⟩:=h;rw[jZ]at hd;obtain⟨d1,d2,d3⟩:=hd;split
   ·constructor
    ·show(v.1++[s]++v.2).Nodup;rw[iD,jZ];refine⟨d1,by rw[Dj,lD];exact⟨λhx=>h2 (by simp[hx]),d2⟩,λa ha b hb=>?_⟩;rw[Dj,dY]at hb;rcases hb with rfl|hb
     ·exact h3 a (by simp[ha])
     ·exact d3 a ha b hb
    ·intro x hx;have hx:x∈v.1++[s]++v.2:=hx;simp only[dX,gH]at hx;rcases hx with(hx|rfl)|hx
     ·exact hr x (by simp[hx])
     ·exact hs
     ·exact hr x (by simp[hx])
   ·constructor
    ·show(v.1++(v.2++[s])).Nodup;rw[jZ];refine⟨d1,?_,λa ha b hb=>?_⟩
     ·rw[jZ];exact⟨d2,by simp,λa ha b hb=>by simp at hb;rw[hb];exact h3 a (by simp[ha])⟩
     ·rw[dX,gH]at hb;rcases hb with hb|rfl
      ·exact d3 a ha b hb
      ·exact h3 a (by simp[ha])
    ·intro x hx;have hx:x∈v.1++(v.2++[s]):=hx;simp only[dX,gH]at hx;rcases hx with hx|hx|rfl
     ·exact hr x (by simp[hx])
     ·exact hr x (by simp[hx])
     ·exact hs
theorem wG.out(h:wG v)(s:Int):wG (dI v s):=by
 have e:(dI v s).1++(dI v s).2=(v.1++v.2).filter (λx=>decide (x≠s)):=by rw[Dp];rfl
 constructor
 ·rw[e];exact h.1.filter _
 ·rw[e];intro x hx;exact h.2 x (tS.1 hx).1
theorem kp(h:(bP v).2.2=true):(bP v).1∈v.1++v.2:=by
 obtain⟨a,b⟩:=v;cases a with
 |cons x a=>simp[bP]
 |nil=>cases b with
  |cons x b=>simp[bP]
  |nil=>simp[bP]at h
theorem xo(v)(s:Int):s∉(dI v s).1++(dI v s).2:=by simp[dI]
theorem wG.drop(h:wG v):wG (cj v).2:=by
 unfold cj;split
 ·exact h.out _
 ·exact h
theorem BB(h:wG v)(hh:(bP v).2.2=true):kE (dI v (bP v).1) (bP v).1 false=(0,(eO v).2):=by
 have hm:=h.2 _ (kp hh);rw[kE,aw (by omega),aw (by simpa using lX.2 (xo v _)),aw (by simp),eO,aF hh]
theorem wG.back(h:wG v):wG (eO v).2:=by
 by_cases hh:(bP v).2.2=true
 ·have:=(h.out (bP v).1).push (bP v).1 false;rwa[BB h hh]at this
 ·rw[eO,aw hh];exact h
theorem yy{p:Int→Bool}{xs:List Int}{j:Nat}{x:Int}(h:xs[j]?=some x):(xs.take (j+1)).filter p=(xs.take j).filter p++(if p x then [x]else []):=by rw[lC,h,Dp];congr 1;simp[Ag]
theorem Ip(s:Sl)(f:Fv)(C:SP)[nt C](xs:List Int)(p:Int→Bool)(hl:xs.length≤4294967296)(hf:∀x∈xs,Ba Tryz.prog f [.lf (.int .i64 x)] [.lf .bool] C (λr=>br (r=p x) C)):
  bx (P_ s f) (C^aQ s KI xs) (λr=>C^aQ r KI (xs.filter (λx=>!p x))):=
 bF λw S R h=>by
  have hs:=(h.drop.rd (s:=s)).2;refine bR (A:=C) (Q:=aZ s KI xs) (PB.Bj s f C xs p hl hf) h λr w h=>?_;obtain⟨hr,h⟩:=h.aP;refine ae (λc=>?_) λc=>?_
  ·have c:r=-1:=cS;have e:xs.filter (λx=>!p x)=xs:=by
    rw[Ao];intro x hx;have:=MC p xs;rw[←hr,c]at this;have h2:xs.any p=false:=this.symm;rw[List.any_eq_false]at h2;simpa using h2 x hx
   rw[e];exact h
  ·have c:r≠-1:=cS;have h0:0≤fI p xs:=by
    unfold fI at hr⊢;split at hr<;>simp_all
   have hfi:∃k:Nat,fI p xs=(k:Int)∧k<xs.length∧(∀j y,j<k→xs[j]?=some y→p y=false)∧∃x,xs[k]?=some x∧p x=true:=by
    unfold fI at h0⊢;cases hk:xs.findIdx? p with
    |none=>rw[hk]at h0;simp at h0
    |some k=>
     obtain⟨hl,hp,hn⟩:=Fw.1 hk;refine⟨k,rfl,hl,λj y hj hy=>?_,xs[k],by simp,hp⟩;obtain⟨hl2,rfl⟩:=ie.1 hy;simpa using hn j hj
   obtain⟨k,hk,hkl,hkn,x0,hx0,hp0⟩:=hfi;rw[hk]at hr;have hw0:i64.wrap (r+1)=(k:Int)+1:=by rw[hr];exact fu
   rw[hw0,hr];have hpre:(xs.take k).filter (λx=>!p x)=xs.take k:=by
    rw[Ao];intro x hx;obtain⟨j,hj,rfl⟩:=B6.1 hx;rw[fU]at hj;rw[List.getElem_take,hkn j _ (by omega) (bV (by omega))];rfl
   have hin:xs.take ((k:Int)).toNat=(xs.take ((k:Int)+1).toNat).filter (λx=>!p x):=(by rw[show((k:Int)+1).toNat=k+1 by omega,show((k:Int)).toNat=k by omega,yy hx0,hpre,hp0];simp);refine cZ (λ(y:Int×Int)=>yj (λys:List Int=>ys.length=xs.length∧ys.take y.1.toNat=(xs.take y.2.toNat).filter (λx=>!p x)∧ys.drop y.2.toNat=xs.drop y.2.toNat) (λys=>C^aQ s KI ys))
    (λ(y:Int×Int)=>0≤y.1∧y.1<y.2∧y.2≤xs.length) (λ(y:Int×Int)=>xs.length-y.2.toNat) (h.r_ xs ⟨rfl,hin,rfl⟩).bq ⟨by show(0:Int)≤k;omega,by show(k:Int)<k+1;omega,by show(k:Int)+1≤_;omega⟩ ?_
   rintro(⟨i,j⟩:Int×Int) w ⟨i0,i1,i2⟩ h;dsimp only at i0 i1 i2 h⊢;obtain⟨ys,⟨y1,y2,y3⟩,h⟩:=h.NB;refine ae (λc=>?_) λc=>?_
   ·have hj:j.toNat<xs.length:=(by simp at c;omega);have hx:=bV hj;have hj1:(j+1).toNat=j.toNat+1:=(by omega);have hi1:(i+1).toNat=i.toNat+1:=(by omega);have hyj:ys[j.toNat]?=some xs[j.toNat]:=by
     have:=dm (λz=>z[0]?) y3;rw[←hx];simpa using this
    have hd:ys.drop (j.toNat+1)=xs.drop (j.toNat+1):=by
     have:=dm (λz=>z.drop 1) y3;simpa using this
    have hw1:i64.wrap (j+1)=j+1:=fu;have hw2:i64.wrap (i+1)=i+1:=fu;refine bT h (by show 0≤j;omega) (by show j.toNat<_;omega) ?_;refine eE h s j.toNat hyj rfl ?_;refine qU (hf _ (xv hj)) h λr w h=>?_;obtain⟨hr,h⟩:=h.aP;rw[hw1,hw2];refine ae (λc=>?_) λc=>?_
    ·have hp:p xs[j.toNat]=false:=(by rw[←hr];simpa using c);refine bT h i0 (by show i.toNat<_;omega) ?_;refine mE h s i.toNat 0 ys[i.toNat] xs[j.toNat] (bV (by omega)) rfl (by simp) (by simp) rfl λw h=>?_;refine⟨⟨⟨by show 0≤i+1;omega,by show i+1<j+1;omega,by show j+1≤_;omega⟩,(h.r_ (ys.set i.toNat xs[j.toNat]) ⟨by simp[y1],?_,?_⟩).bq⟩,by show _-(j+1).toNat<_-j.toNat;omega⟩
     ·show _=(xs.take (j+1).toNat).filter _;show List.take (i+1).toNat _=_;rw[hi1,hj1,yy hx,←y2,lC,List.take_set_of_le (eM _),sB (by omega),hp]
      rfl
     ·show _=xs.drop (j+1).toNat;show List.drop (j+1).toNat _=_;rw[hj1,List.drop_set_of_lt (by omega),hd]
    ·have hp:p xs[j.toNat]=true:=(by rw[←hr];simpa using c);refine⟨⟨⟨i0,by show i<j+1;omega,by show j+1≤_;omega⟩,(h.r_ ys ⟨y1,?_,?_⟩).bq⟩,by show _-(j+1).toNat<_-j.toNat;omega⟩
     ·show _=(xs.take (j+1).toNat).filter _;rw[hj1,yy hx,←y2,hp];simp
     ·show List.drop (j+1).toNat _=xs.drop (j+1).toNat;rw[hj1,hd]
   ·have hj:j.toNat=xs.length:=(by simp at c;omega);have hys:ys.length=s.len:=(by omega);have hfil:xs.filter (λx=>!p x)=ys.take i.toNat:=(by rw[y2,hj,sC]);have hca:=pg (s:=s) h;refine H4 (s:=s) h (h.nrm s) i.toNat ys.length s.cap rfl (by show i=_;omega) (by show ys.length=_;omega) rfl (by omega) (by omega) (by omega) (by omega) λhl8 _=>?_;refine K5 (s:=s) (l:=i.toNat) (z:=(0:Int)) h rfl rfl (by omega) λw h=>?_;refine wD (s:=s) h 0 i.toNat s.cap rfl rfl (by show i=_;omega) rfl (by omega) (by simp;omega) (by omega) (by omega) λs9 _ _ h=>?_;have e:(List.take i.toNat (ys.take i.toNat++List.replicate (ys.length-i.toNat) 0)).drop 0=xs.filter (λx=>!p x):=(by rw[vX,NQ (by simp;omega),List.take_take,Nat.min_self,hfil]);have h:=h.eD (s:=s9) e;exact h.aK
theorem MP(n:Int)(h0:0≤n)(h1:n≤4294967296):bx (U7 ⟨none,0,0⟩ n) bg (λr=>aQ r KI []):=
 bF λw S R h=>by
  have h:=h.nil KI;refine aS h (λ_=>aQ ⟨none,0,0⟩ KI []) (λ_=>True) (λy w _ h=>?_) ?_
  ·have e1:i64.wrap (((0:Nat):Int)-((0:Nat):Int))=0:=rfl;have e2:i64.wrap (n-0)=n:=(by rw[Int.sub_zero];exact fu);show ar (decide (i64.wrap (n-i64.wrap (((0:Nat):Int)-((0:Nat):Int)))>0)) _ _ w;refine ae (λc=>?_) λc=>?_
   ·refine wD (s:=⟨none,0,0⟩) h 0 0 0 rfl rfl rfl rfl (by omega) (by simp) (by omega) (by simp) λs3 hl3 hc3 h=>?_;show PL _ 1 s3 (i64.wrap (n-i64.wrap (((0:Nat):Int)-((0:Nat):Int)))) _ w;rw[e1,e2];refine WH (s:=s3) (z:=(0:Int)) h rfl rfl h0 (by simp;omega) λs4 w hl4 h=>?_;have hc:=pg (s:=s4) h;refine wD (s:=s4) h 0 0 s4.cap rfl rfl rfl rfl (by omega) (by omega) (by omega) (by omega) λs5 hl5 hc5 h=>?_;have h:=h.eD (s:=s5) (ys:=[]) (by simp);exact h.bq
   ·exact h
  ·refine ae (λc=>?_) λc=>?_
   ·exfalso;simp at c;omega
   ·exact⟨trivial,h.bq⟩
theorem Gv(n a b)(xs ys:List Int)(hl:xs.length+ys.length≤4294967296):
  bx (UH ⟨some ⟨n,0⟩,2,2⟩) (aQ ⟨some ⟨n,0⟩,2,2⟩ [.sl] [a,b]^aZ a KI xs^aZ b KI ys) (λr=>aQ r KI (xs++ys)):=
 bF λw S R h=>by
  have ha:=(h.drop.rd (s:=a)).2;have hb:=((h.drop.le (aU _ _)).rd (s:=b)).2;refine cZ (λ_=>aQ ⟨some ⟨n,0⟩,2,2⟩ [.sl] [a,b]^aZ a KI xs^aZ b KI ys) (λ(y:Int×Int)=>(y.2=0∧y.1=0)∨(y.2=1∧y.1=xs.length)∨(y.2=2∧y.1=xs.length+ys.length)) (λ(y:Int×Int)=>(2-y.2).toNat) h (.inl ⟨rfl,rfl⟩) ?_;rintro(⟨z,i⟩:Int×Int) w hz h;dsimp only at hz⊢;refine ae (λc=>?_) λc=>?_
  ·have hi:i=0∨i=1:=(by simp at c;omega);have hg:∃q:Sl,[a,b][i.toNat]?=some q∧((i=0∧q.len=xs.length)∨(i=1∧q.len=ys.length)):=by
    rcases hi with rfl|rfl
    ·exact⟨a,rfl,.inl ⟨rfl,ha⟩⟩
    ·exact⟨b,rfl,.inr ⟨rfl,hb⟩⟩
   obtain⟨q,hq,hql⟩:=hg;refine bT h (by omega) (by simp;omega) ?_;refine eE h ⟨some ⟨n,0⟩,2,2⟩ i.toNat hq rfl ?_;have hw:i64.wrap (z+(q.len:Int))=z+q.len:=fu;rw[hw,fu (n:=i+1)];refine ae (λc=>by simp at c;omega) λc=>?_;refine⟨⟨?_,h⟩,by show(2-(i+1)).toNat<(2-i).toNat;omega⟩;show(i+1=0∧_)∨(i+1=1∧z+(q.len:Int)=_)∨(i+1=2∧z+(q.len:Int)=_);omega
  ·have hi:i=2:=(by simp at c;omega);have hz:z=xs.length+ys.length:=(by omega);refine aq (MP z (by omega) (by omega)) (h.le ((aG _).trans (aU _ _))) λr w h=>?_;obtain⟨g,g0,g1,g2⟩:∃g:Int→List Int,g 0=[]∧g 1=xs∧g 2=xs++ys:=⟨λi=>if i=0 then []else if i=1 then xs else xs++ys,by simp,by simp,by simp⟩;have h:=h.eD (s:=r) (K:=KI) (ys:=g 0) g0.symm;refine cZ (λ(y:Sl×Int)=>aQ y.1 KI (g y.2)^aQ ⟨some ⟨n,0⟩,2,2⟩ [.sl] [a,b]^aZ a KI xs^aZ b KI ys) (λ(y:Sl×Int)=>0≤y.2∧y.2≤2) (λ(y:Sl×Int)=>(2-y.2).toNat) h ⟨by simp,by simp⟩ ?_;rintro(⟨s,i⟩:Sl×Int) w ⟨i0,i1⟩ h;dsimp only at i0 i1 h⊢;refine ae (λc=>?_) λc=>?_
   ·have hi:i=0∨i=1:=(by simp at c;omega);have h':=h.le (iX _ _ _);rcases hi with rfl|rfl
    ·refine bT h' (by omega) (by simp) ?_;refine eE h' ⟨some ⟨n,0⟩,2,2⟩ 0 rfl rfl ?_;refine dF (x:=a) h rfl (by rw[g0];simp;omega) λs10 w _ h=>?_;have e:i64.wrap (0+1)=1:=rfl;rw[e];have h:=h.eD (s:=s10) (K:=KI) (ys:=g 1) (by rw[g0,g1,po]);exact⟨⟨⟨by simp,by simp⟩,h⟩,by simp⟩
    ·refine bT h' (by omega) (by simp) ?_;refine eE h' ⟨some ⟨n,0⟩,2,2⟩ 1 rfl rfl ?_;have hb2:Rd b (aQ s KI (g 1)^aQ ⟨some ⟨n,0⟩,2,2⟩ [.sl] [a,b]^aZ a KI xs^aZ b KI ys) KI ys:=⟨λw S R h=>by
      obtain⟨_,_,_,_,_,⟨_,_,_,_,_,⟨_,_,_,_,_,h,_⟩,_⟩,_⟩:=h;exact h.1,λw S R h hne q hq=>by
      obtain⟨_,_,_,_,_,⟨_,_,_,_,_,⟨_,_,_,_,_,h,_,hR3,_⟩,_,hR2,_⟩,_,hR1,_⟩:=h;exact .inr ((hR1 _).2 (.inr ((hR2 _).2 (.inr ((hR3 _).2 (.inr ((h.2.2 _).2 ⟨⟨q,hq,rfl⟩,hne⟩)))))))⟩
     refine dF (x:=b) (r:=hb2) h rfl (by rw[g1];omega) λs10 w _ h=>?_;have e:i64.wrap (1+1)=2:=rfl;rw[e];have h:=h.eD (s:=s10) (K:=KI) (ys:=g 2) (by rw[g1,g2]);exact⟨⟨⟨by simp,by simp⟩,h⟩,by simp⟩
   ·have hi:i=2:=(by simp at c;omega);have h:=h.eD (s:=s) (K:=KI) (ys:=xs++ys) (by rw[hi,g2]);exact h.aK
def vL(n:Nat):Fv:=.mk (.func jQ) [] [V1.enc (.lf (.ptr (some ⟨n,0⟩)))]
theorem jh(p):bx (LW p) bg (λf=>ex λn=>br (f=vL n) (ah n [.ptr p])):=
 bF λw S R h=>by
  refine aD h λn1 w h=>?_;exact au.gI n1 (au.aH rfl h.bq)
theorem Ie{v:LV}{i:Nat}{x:Int}(h:(v.1++v.2)[i]?=some x):(lm v)[i]?=some (x,decide ((i:Int)<(v.1.length:Int))):=by
 unfold lm;by_cases hi:i<v.1.length
 ·rw[pk hi]at h;rw[pk (by simpa using hi),kV,h];simp[hi]
 ·rw[tO (by omega)]at h;rw[tO (by simp;omega),kV,fy,h];simp;omega
theorem yU(v):(lm v).length=v.1.length+v.2.length:=by simp[lm]
theorem lN(n b v)(hl:v.1.length+v.2.length≤4294967296):Iter Tryz.prog (vL n) (ah n [.ptr (some ⟨b,0⟩)]^jN b v) [.lf (.int .i64),.lf .bool] (lm v):=by
 intro y I D hy;refine wF.g (f:=jQ) (args:=[.lf (.fn y)]) (caps:=[.lf (.ptr (some ⟨n,0⟩))]) (bF (c:=XL y ⟨n,0⟩) λw S R h=>?_);refine aj h rfl ?_;refine ae (λc=>(by cases c)) λc=>?_;refine aj h rfl ?_;obtain⟨s1,s2,h⟩:=h.jN b;have hs1:=((h.take (aQ s1 KI v.1)).rd (s:=s1)).2;refine ac (aj h rfl ?_);refine aM h λw h=>?_;refine aj h rfl (aj h rfl (ac (ac (aj h rfl (aj h rfl ?_)))));refine aD h λn11 w h=>?_;have h:=h.ct n11 [.sl] [s1,s2] rfl (by simp);have h:=(h.take (ah b [aX s1,aX s2]^aQ s1 KI v.1^aQ s2 KI v.2^aQ ⟨some ⟨n11,0⟩,2,2⟩ [.sl] [s1,s2]^ah n [.ptr (some ⟨b,0⟩)]^I 0)).bq;refine bR (A:=aQ ⟨some ⟨n11,0⟩,2,2⟩ [.sl] [s1,s2]) (Q:=aZ s1 KI v.1^aZ s2 KI v.2) (Gv n11 s1 s2 v.1 v.2 hl) h λr w h=>?_;have hr:=(h.rd (s:=r)).2;have h:=h.E7 b s1 s2 v;have h:au _ _ _ _ (aQ r KI (v.1++v.2)^jN b v^ah n [.ptr (some ⟨b,0⟩)]^I 0):=h.aK;have hlen:(v.1++v.2).length=v.1.length+v.2.length:=eQ;refine cZ (λ(i:Int)=>aQ r KI (v.1++v.2)^jN b v^ah n [.ptr (some ⟨b,0⟩)]^I i.toNat) (λ(i:Int)=>0≤i∧i.toNat≤(v.1++v.2).length) (λ(i:Int)=>(v.1++v.2).length-i.toNat) h ⟨ig 0,by simp⟩ ?_;rintro(i:Int) w ⟨h0,h1⟩ h;refine ae (λc=>?_) λc=>?_
 ·have hi:i.toNat<(v.1++v.2).length:=by simp at c;omega
  refine bT h h0 hi ?_;obtain⟨x,hx⟩:∃x,(v.1++v.2)[i.toNat]?=some x:=⟨_,bV hi⟩;refine eE h r i.toNat hx rfl ?_;have ha:=Ie hx;have hii:((i.toNat:Nat):Int)=i:=Aa h0;rw[hii,←hs1]at ha;have ht:Ba Tryz.prog y [.lf (.int .i64 x),.lf (.bool (decide (i<(s1.len:Int))))] [.lf .bool] (I i.toNat) (λc=>cond c (I (i.toNat+1)) D):=hy i.toNat (x,decide (i<(s1.len:Int))) ha;refine qU ht h λc w h=>?_;cases c with
  |false=>
   refine ae (λc=>?_) λc=>by cases c
   have h:au _ _ _ _ (D^_):=h;have h:=h.yu (I (lm v).length);exact h.aK
  |true=>
   refine ae (λc=>by cases c) λc=>?_;have h:au _ _ _ _ (I (i.toNat+1)^_):=h;rw[fu];have e:(i+1).toNat=i.toNat+1:=by omega
   refine⟨⟨⟨(by show(0:Int)≤i+1;omega),(by show(i+1).toNat≤_;omega)⟩,?_⟩,(by show _-(i+1).toNat<_;omega)⟩;show au _ _ _ _ (aQ r KI (v.1++v.2)^jN b v^ah n [.ptr (some ⟨b,0⟩)]^I (i+1).toNat);rw[e];exact h.aK
 ·have hi:i.toNat=(lm v).length:=by rw[yU];simp at c;omega
  rw[hi]at h;have h:=h.take (I (lm v).length);have h:=h.vg D;exact h.aK
theorem Em{x:Int×Bool}(h:(lm v)[i]?=some x):(i<v.1.length∧v.1[i]?=some x.1∧x.2=true)∨(v.1.length≤i∧v.2[i-v.1.length]?=some x.1∧x.2=false):=by
 unfold lm at h;by_cases hi:i<v.1.length
 ·rw[pk (by simpa using hi),kV]at h;obtain⟨y,hy,rfl⟩:=Dg.1 h;exact .inl ⟨hi,hy,rfl⟩
 ·rw[tO (by simp;omega),kV,fy]at h;obtain⟨y,hy,rfl⟩:=Dg.1 h;exact .inr ⟨by omega,hy,rfl⟩
theorem NF{v:LV}{i:Nat}{x:Int×Bool}(h:(lm v)[i]?=some x)(hn:∀j y,j<i→(lm v)[j]?=some y→y.1≠x.1):bY v x.1=if x.2 then 1 else 2:=by
 rcases Em h with⟨hi,h1,h2⟩|⟨hi,h1,h2⟩
 ·rw[bY,aF (tQ.2 ⟨_,h1⟩),h2];rfl
 ·rw[bY,aw,aF (tQ.2 ⟨_,h1⟩),h2];rfl;intro hm;obtain⟨j,hj⟩:=tQ.1 hm;have hjl:j<v.1.length:=(ie.1 hj).1;refine hn j (x.1,true) (by omega) ?_ rfl;unfold lm;rw[pk (by simpa using hjl),kV,hj];rfl
theorem G2{s:Int}(hn:∀j y,j<(lm v).length→(lm v)[j]?=some y→y.1≠s):bY v s=0:=by
 rw[lX];intro hm;obtain⟨j,hj⟩:=tQ.1 hm;have hjl:j<(v.1++v.2).length:=(ie.1 hj).1;exact hn j _ (by rw[yU];rw[eQ]at hjl;exact hjl) (Ie hj) rfl
theorem te(b v)(s:Int)(hl:v.1.length+v.2.length≤4294967296):bx (L2 (some ⟨b,0⟩) s) (jN b v) (λr=>br (r=bY v s) (jN b v)):=
 Tg λw S R h=>by
  refine aD h λn1 w h=>?_;refine aD h λn2 w h=>?_;refine aq (jh _) (h.le (aG _)) λf w h=>?_;obtain⟨n,h⟩:=h.lS;obtain⟨hf,h⟩:=h.aP;rw[hf];have h:=(h.take (ah n1 [aJ s]^ah n2 [aJ 0])).je (p:=∀j y,j<0→(lm v)[j]?=some y→y.1≠s) (λj y hj=>by omega);refine pr (lN n b v hl) (λi=>br (∀j y,j<i→(lm v)[j]?=some y→y.1≠s) (ah n1 [aJ s]^ah n2 [aJ 0])) (λj=>br (j=1) (ah n1 [aJ s]^ah n2 [aJ (bY v s)])) h ?_ ?_ ?_
  ·rintro i (x:Int×Bool) hx w S R BX next jump rdy bsy hmid hnext hjump h
   refine hmid h λw h=>?_;have h:=h.take (br (∀j y,j<i→(lm v)[j]?=some y→y.1≠s) (ah n1 [aJ s]^ah n2 [aJ 0]));obtain⟨hno,h⟩:=h.aP;refine aj h rfl ?_;refine ae (λc=>?_) λc=>?_
   ·have c:x.1≠s:=cS;have h:=(h.take (ah n1 [aJ s]^ah n2 [aJ 0])).je (p:=∀j y,j<i+1→(lm v)[j]?=some y→y.1≠s) (λj y hj hy=>by
     by_cases hji:j=i
     ·rw[hji,hx]at hy;cases hy;exact c
     ·exact hno j y (by omega) hy)
    exact hnext h
   ·have c:x.1=s:=cS;have hp:=NF hx (by rw[c];exact hno);rw[c]at hp;refine ae (λc2=>?_) λc2=>?_
    ·refine be h rfl λw h=>?_;dsimp only[dE,over]at h;rw[c2,aF rfl]at hp;rw[←hp]at h;have h:=(h.take (ah n1 [aJ s]^ah n2 [aJ (bY v s)])).je (p:=1=1) rfl;exact hjump 1 (by decide) h
    ·refine be h rfl λw h=>?_;dsimp only[dE,over]at h;have c2:x.2=false:=c2;rw[c2,aw (by simp)]at hp;rw[←hp]at h;have h:=(h.take (ah n1 [aJ s]^ah n2 [aJ (bY v s)])).je (p:=1=1) rfl;exact hjump 1 (by decide) h
  ·intro w h;have h:=h.take (br (∀j y,j<(lm v).length→(lm v)[j]?=some y→y.1≠s) (ah n1 [aJ s]^ah n2 [aJ 0]));obtain⟨hno,h⟩:=h.aP;refine be h rfl λw h=>?_;dsimp only[dE,over]at h;refine aj h rfl ?_;refine aV h λw h=>?_;exact au.aH (G2 hno).symm h.aK
  ·intro j w hj h;have h:=h.take (br (j=1) (ah n1 [aJ s]^ah n2 [aJ (bY v s)]));obtain⟨hj1,h⟩:=h.aP;rw[hj1];refine aj h rfl ?_;refine aV h λw h=>?_;exact au.aH rfl h.aK
theorem ES(v):bP v=match lm v with|x::_=>(x.1,x.2,true)|[]=>(0,false,false):=by
 obtain⟨a,c⟩:=v;cases a with
 |cons x a=>rfl
 |nil=>cases c with
  |cons x c=>rfl
  |nil=>rfl
theorem zo(b v)(hl:v.1.length+v.2.length≤4294967296):bx (XR (some ⟨b,0⟩)) (jN b v) (λr=>br (r=bP v) (jN b v)):=
 Tg λw S R h=>by
  refine aD h λn1 w h=>?_;refine aD h λn2 w h=>?_;refine aD h λn3 w h=>?_;refine aS h (λ_=>ah n1 [aJ 0]^ah n2 [a_ false]^ah n3 [a_ false]^jN b v) (λ_=>bP v=(0,false,false)) (λy w hv h=>?_) ?_
  ·refine be h rfl λw h=>?_;dsimp only[dE,over]at h;refine be h rfl λw h=>?_;dsimp only[dE,over]at h;refine be h rfl λw h=>?_;dsimp only[dE,over]at h;refine aj h rfl (aj h rfl (aj h rfl ?_));refine aV h λw h=>?_;exact au.aH hv.symm h.aK
  ·refine aq (jh _) (h.le (aG _)) λf w h=>?_;obtain⟨n,h⟩:=h.lS;obtain⟨hf,h⟩:=h.aP;rw[hf];have h:=(h.take (ah n1 [aJ 0]^ah n2 [a_ false]^ah n3 [a_ false])).je (p:=(0:Nat)=0) rfl;refine pr (lN n b v hl) (λi=>br (i=0) (ah n1 [aJ 0]^ah n2 [a_ false]^ah n3 [a_ false])) (λj=>br (j=1) (ah n1 [aJ (bP v).1]^ah n2 [a_ (bP v).2.1]^ah n3 [a_ (bP v).2.2])) h ?_ ?_ ?_
   ·rintro i (x:Int×Bool) hx w S R BX next jump rdy bsy hmid hnext hjump h
    refine hmid h λw h=>?_;have h:=h.take (br (i=0) (ah n1 [aJ 0]^ah n2 [a_ false]^ah n3 [a_ false]));obtain⟨hi,h⟩:=h.aP;have hv:bP v=(x.1,x.2,true):=by
     rw[ES];rw[hi]at hx;cases ha:lm v with
     |nil=>rw[ha]at hx;cases hx
     |cons y l=>rw[ha]at hx;cases hx;rfl
    rw[hv]at hjump;refine be h rfl λw h=>?_;dsimp only[dE,over]at h;refine be h rfl λw h=>?_;dsimp only[dE,over]at h;refine be h rfl λw h=>?_;dsimp only[dE,over]at h;have h:=(h.take (ah n1 [aJ x.1]^ah n2 [a_ x.2]^ah n3 [a_ true])).je (p:=1=1) rfl;exact hjump 1 (by decide) h
   ·intro w h;have h:=h.take (br ((lm v).length=0) (ah n1 [aJ 0]^ah n2 [a_ false]^ah n3 [a_ false]));obtain⟨hno,h⟩:=h.aP;refine⟨?_,h.aK⟩;rw[ES,nX hno]
   ·intro j w hj h;have h:=h.take (br (j=1) (ah n1 [aJ (bP v).1]^ah n2 [a_ (bP v).2.1]^ah n3 [a_ (bP v).2.2]));obtain⟨hj1,h⟩:=h.aP;rw[hj1];refine aj h rfl (aj h rfl (aj h rfl ?_));refine aV h λw h=>?_;exact au.aH rfl h.aK
theorem ku:bx ZT bg (λr=>ex λb=>br (r=some ⟨b,0⟩) (jN b ([],[]))):=
 bF λw S R h=>by
  refine aD h λn1 w h=>?_;exact au.gI n1 (au.aH rfl (((h.nil KI).nil KI).E7 n1 ⟨none,0,0⟩ ⟨none,0,0⟩ ([],[])).bq)
theorem qn(b v)(s:Int)(f)(hl:v.1.length+v.2.length≤4294967295):
  bx (LU (some ⟨b,0⟩) s f) (jN b v) (λr=>br (r=(kE v s f).1) (jN b (kE v s f).2)):=
 bF λw S R h=>by
  refine ae (λc=>(by cases c)) λc=>?_;refine ae (λc=>?_) λc=>?_
  ·have c:s<0∨8≤s:=cS;rw[kE,aF c];exact au.aH rfl h
  ·have c:¬(s<0∨8≤s):=(by simp at c;omega);rw[kE,aw c];refine aq (te b v s (by omega)) (h.le (aG _)) λr w h=>?_;obtain⟨hr,h⟩:=h.aP;refine ae (λc2=>?_) λc2=>?_
   ·rw[aF (by rw[←hr];simpa using c2)];exact au.aH rfl h.bq
   ·rw[aw (by rw[←hr];simpa using c2)];obtain⟨s1,s2,h⟩:=h.jN b;refine ae (λc3=>?_) λc3=>?_
    ·rw[aF c3];refine ac (aj h rfl ?_);refine aD h λn w h=>?_;have h:=h.ct n KI [s] rfl (by simp);refine dF (s:=s1) (x:=⟨some ⟨n,0⟩,1,1⟩) h rfl (by simp;omega) λs' w _ h=>?_;refine ac (be h rfl λw h=>?_);dsimp only[dE,over]at h;exact au.aH rfl (h.E7 b s' s2 (v.1++[s],v.2)).bq
    ·have c3:f=false:=c3;rw[c3,aw (by simp)];refine ac (aj h rfl ?_);refine aD h λn w h=>?_;have h:=h.ct n KI [s] rfl (by simp);refine dF (s:=s2) (x:=⟨some ⟨n,0⟩,1,1⟩) h rfl (by simp;omega) λs' w _ h=>?_;refine ac (be h rfl λw h=>?_);dsimp only[dE,over]at h;exact au.aH rfl (h.E7 b s1 s' (v.1,v.2++[s])).bq
theorem Rp(n)(x s:Int):bx (XM x ⟨n,0⟩) (ah n [aJ s]) (λr=>br (r=(x==s)) (ah n [aJ s])):=
 bF λw S R h=>by
  refine aj h rfl ?_;exact au.aH rfl h
theorem uN(b v)(s:Int)(hl:v.1.length+v.2.length≤4294967296):
  bx (LX (some ⟨b,0⟩) s) (jN b v) (λr=>br (r=(jI v s).1) (jN b (jI v s).2)):=
 bF λw S R h=>by
  refine aD h λn w h=>?_;refine aj h rfl ?_;refine aq (te b v s hl) h λr w h=>?_;obtain⟨hr,h⟩:=h.aP;refine ae (λc=>?_) λc=>?_
  ·have c:bY v s=0:=(by rw[←hr];simpa using c);have hm:=lX.1 c;have e:(jI v s).2=v:=by
    obtain⟨a,d⟩:=v;simp only[jI,dI,dX,qM]at hm⊢
    congr 1
    ·rw[Ao];intro x hx;exact nM λe=>hm.1 (e▸hx)
    ·rw[Ao];intro x hx;exact nM λe=>hm.2 (e▸hx)
   rw[e,jI,c];exact au.aH (by simp) h.bq
  ·have c:bY v s≠0:=(by rw[←hr];simpa using c);refine aM h λw h=>?_;obtain⟨s1,s2,h⟩:=h.jN b;refine ac (ac (aj h rfl (aj h rfl ?_)));have hf:∀x:Int,Ba Tryz.prog (.mk (.func fR) [] [V1.enc (.lf (.ptr (some ⟨n,0⟩)))]) [.lf (.int .i64 x)] [.lf .bool] (ah n [aJ s]) (λr=>br (r=(x==s)) (ah n [aJ s])):=λx=>
    (wF.g (f:=fR) (args:=[.lf (.int .i64 x)]) (caps:=[.lf (.ptr (some ⟨n,0⟩))]) (Rp n x s)).v
   have eq (l:List Int):l.filter (λx=>!(x==s))=l.filter (λx=>decide (x≠s)):=(by congr 1;funext x;by_cases hx:x=s<;>simp[hx]);refine aq (Ip s1 _ (ah n [aJ s]) v.1 (λx=>x==s) (by omega) (λx _=>hf x)) h λr1 w h=>?_;refine aN h rfl ?_;refine aq (Ip s2 _ (ah n [aJ s]) v.2 (λx=>x==s) (by omega) (λx _=>hf x)) h λr2 w h=>?_;refine ac (be h rfl λw h=>?_);dsimp only[dE,over]at h;refine ac (be h rfl λw h=>?_);dsimp only[dE,over]at h;rw[eq,eq]at h;exact au.aH (by simp[jI,c]) (h.E7 b r1 r2 (v.1.filter (λx=>decide (x≠s)),v.2.filter (λx=>decide (x≠s)))).bq
theorem Q1(h:(bP v).2.2=false):v=([],[]):=by
 obtain⟨a,c⟩:=v;cases a with
 |cons x a=>cases h
 |nil=>cases c with
  |cons x c=>cases h
  |nil=>rfl
theorem yc(h:(bP v).2.2=true):jI v (bP v).1=(true,dI v (bP v).1):=by
 have:=kp h;have h2:bY v (bP v).1≠0:=λe=>lX.1 e this;rw[jI,nM h2]
theorem ov(b v)(hl:v.1.length+v.2.length≤4294967296):
  bx (Y7 (some ⟨b,0⟩)) (jN b v) (λr=>br (r=(cj v).1) (jN b (cj v).2)):=
 bF λw S R h=>by
  refine aq (zo b v hl) (h.le (aG _)) λr w h=>?_;obtain⟨hr,h⟩:=h.aP;rw[hr,cj];refine ae (λc=>?_) λc=>?_
  ·rw[aF c];refine aq (uN b v _ hl) h λr w h=>?_;rw[yc c]at h;obtain⟨hr,h⟩:=h.aP;exact au.aH hr h.bq
  ·rw[aw (by rw[c];simp)];exact au.aH rfl h.bq
theorem rQ(b v)(ho:wG v):
  bx (Y6 (some ⟨b,0⟩)) (jN b v) (λr=>br (r=(eO v).1) (jN b (eO v).2)):=
 bF λw S R h=>by
  have hl:=ho.GC;refine aI (zo b v (by omega)) (h.le (aG _)) λw h=>?_;refine ae (λc=>?_) λc=>?_
  ·refine aq (uN b v _ (by omega)) h λr w h=>?_;rw[yc c]at h;obtain⟨hr,h⟩:=h.aP;refine ae (λ_=>?_) λc=>by rw[hr]at c;cases c
   have hl2:=(ho.out (bP v).1).GC;refine aq (qn b (dI v (bP v).1) (bP v).1 false (by omega)) h λr w h=>?_;rw[BB ho c]at h;obtain⟨hr,h⟩:=h.aP;exact au.aH (by rw[hr,eO,aF c];rfl) h.bq
  ·rw[eO,aw (by rw[c];simp)];exact au.aH rfl h.bq
theorem tU(s)(xs:List Int)(x:Int)(hl:xs.length≤4294967296):bx (Qj s x) (bg^aZ s KI xs) (λr=>aQ r KI (xs.filter (λy=>decide (y≠x)))):=
 bF λw S R h=>by
  have hs:=(h.drop.rd (s:=s)).2;have h:=h.nil KI;have h:au _ _ _ _ (aQ ⟨none,0,0⟩ KI []^aZ s KI xs):=h.aK;refine cZ (λ(y:Sl×Int)=>aQ y.1 KI ((xs.take y.2.toNat).filter (λy=>decide (y≠x)))^aZ s KI xs) (λ(y:Sl×Int)=>0≤y.2∧y.2.toNat≤xs.length) (λ(y:Sl×Int)=>xs.length-y.2.toNat) h ⟨by simp,by simp⟩ ?_;rintro(⟨r,i⟩:Sl×Int) w ⟨h0,h1⟩ h;dsimp only at h0 h1 h⊢;refine ae (λc=>?_) λc=>?_
  ·have hi:i.toNat<xs.length:=(by simp at c;omega);have hx:=bV hi;have e:(i+1).toNat=i.toNat+1:=(by omega);have hk:=yy (p:=λy=>decide (y≠x)) hx;have h':=h.le (aU _ _);rw[fu (n:=i+1)];refine bT h' h0 hi ?_;refine eE h' s i.toNat hx rfl ?_;refine ae (λc2=>?_) λc2=>?_
   ·have c2:xs[i.toNat]≠x:=gJ;rw[aF (nM c2)]at hk;refine bT h' h0 hi ?_;refine eE h' s i.toNat hx rfl ?_;refine aD h λn w h=>?_;have h:=h.ct n KI [xs[i.toNat]] rfl (by simp);have hb:(List.filter (λy=>decide (y≠x)) (xs.take i.toNat)).length+[xs[i.toNat]].length≤4294967296:=by
     have hfl:=FB (λy=>decide (y≠x)) (xs.take i.toNat);rw[fU]at hfl;rw[gO];omega
    refine dF (s:=r) (x:=⟨some ⟨n,0⟩,1,1⟩) h rfl hb λs' w _ h=>?_;have h:=h.eD (s:=s') (K:=KI) (ys:=(xs.take (i+1).toNat).filter (λy=>decide (y≠x))) (by rw[e,hk]);exact⟨⟨⟨by show 0≤i+1;omega,by show(i+1).toNat≤_;omega⟩,h.aK⟩,by show _-(i+1).toNat<_;omega⟩
   ·have c2:xs[i.toNat]=x:=gJ;rw[aw (by simp[c2]),qw]at hk;have h:=h.eD (s:=r) (K:=KI) (ys:=(xs.take (i+1).toNat).filter (λy=>decide (y≠x))) (by rw[e,hk]);exact⟨⟨⟨by show 0≤i+1;omega,by show(i+1).toNat≤_;omega⟩,h⟩,by show _-(i+1).toNat<_;omega⟩
  ·have hi:i.toNat=xs.length:=(by simp at c;omega);rw[hi,sC]at h;exact h.bq
end f_

namespace Bz
open _root_.Go.X.Tree
abbrev KN:Ks:=[.int .u64,.int .u64,.int .i64,.int .i64,.int .i64]
theorem BR(x:Int):bx (Qt x) bg (λr=>br (r=false) bg):=
 bF λw0 S R h=>by exact au.aH (by simp) h
def c1(x y:Int):Int:=if x<y then-1 else if x>y then 1 else 0
theorem QJ(x y:Int):bx (Qo x y) bg (λr=>br (r=c1 x y) bg):=
 bF λw0 S R h=>by
  unfold c1;refine aI (BR x) h λw h=>?_;refine aI (BR y) h λw h=>?_;refine ae (λc=>(by cases c)) λ_=>ae (λc=>(by cases c)) λ_=>?_;refine ae (λc=>?_) λc=>?_
  ·rw[aF (bZ c)];exact au.aH rfl h.h_
  rw[aw (cd c)];refine ae (λc=>?_) λc=>?_
  ·rw[aF (bZ c)];exact au.aH rfl h.h_
  ·rw[aw (cd c)];exact au.aH rfl h.h_
theorem Wd(n)(a b:Int):bx (U_ ⟨some ⟨n,0⟩,2,2⟩) (aQ ⟨some ⟨n,0⟩,2,2⟩ KI [a,b]) (λr=>br (r=if a≠0 then a else b) (aQ ⟨some ⟨n,0⟩,2,2⟩ KI [a,b])):=
 bF λw0 S R h=>by
  refine cZ (λ_:Int=>aQ ⟨some ⟨n,0⟩,2,2⟩ KI [a,b]) (λi:Int=>i=0∨(i=1∧a=0)∨(i=2∧a=0∧b=0)) (λi:Int=>(2-i).toNat) h (.inl rfl) ?_;rintro(i:Int) w hi h;refine ae (λc=>?_) λc=>?_
  ·have c:i<2:=cS;rcases hi with rfl|⟨rfl,ha⟩|⟨rfl,_⟩
   ·refine bT h (by omega) (by simp) (eE h ⟨some ⟨n,0⟩,2,2⟩ 0 rfl rfl ?_);refine ae (λc=>?_) λc=>?_
    ·have c:a≠0:=cS;exact au.aH (by rw[aF c]) h
    ·have c:a=0:=cS;exact⟨⟨.inr (.inl ⟨rfl,c⟩),h⟩,by decide⟩
   ·refine bT h (by omega) (by simp) (eE h ⟨some ⟨n,0⟩,2,2⟩ 1 rfl rfl ?_);refine ae (λc=>?_) λc=>?_
    ·exact au.aH (by rw[aw (by simp[ha])]) h
    ·have c:b=0:=cS;exact⟨⟨.inr (.inr ⟨rfl,ha,c⟩),h⟩,by decide⟩
   ·omega
  ·have c:¬i<2:=cS;rcases hi with rfl|⟨rfl,ha⟩|⟨rfl,ha,hb⟩
   ·omega
   ·omega
   ·exact au.aH (by rw[aw (by simp[ha]),hb]) h
def kc(a b:Key):Int:=if lF a b then-1 else if a=b then 0 else 1
theorem M0:kc a b<0↔lF a b=true:=by
 unfold kc;split
 ·rename_i h;simp[h]
 ·rename_i h;split<;>simp[h]
theorem SK:kc a b>0↔lF a b=false∧a≠b:=by
 unfold kc;split
 ·rename_i h;simp[h]
 ·rename_i h;split<;>rename_i h2<;>simp[h,h2]
theorem EB(a b):bx (Qa a b) bg (λr=>br (r=kc a b) bg):=
 bF λw0 S R h=>by
  refine aD h λn1 w h=>?_;refine aD h λn2 w h=>?_;repeat' (first
   |(refine aM h λw h=>?_)
   |(refine ac ?_)
   |(refine ay h rfl ?_)
   |(refine aj h rfl ?_)
   |(refine aO h ?_)
   |(refine aN h rfl ?_)
   |(refine aA h (by rfl) λw h=>?_)
   |(refine aD h λn w h=>?_)
   |(refine aV h λw h=>?_)
   |(refine be h rfl λw h=>?_;dsimp only[dE,over]at h)
   |(refine aq (QJ _ _) h λr w h=>?_;obtain⟨hr,h⟩:=h.aP;(try dsimp only at hr h);try rw[hr]))
  have h:=h.ct n KI [c1 a.1 b.1,c1 a.2 b.2] rfl (by simp);refine aq (Wd n (c1 a.1 b.1) (c1 a.2 b.2)) h λr w h=>?_;obtain⟨hr,h⟩:=h.aP;refine au.aH ?_ h.h_;rw[hr];obtain⟨a1,a2⟩:=a;obtain⟨b1,b2⟩:=b;unfold c1 kc;by_cases h1:a1<b1
  ·simp[lF,h1]
  ·by_cases h2:a1=b1
   ·by_cases h3:a2<b2
    ·simp[lF,h2,h3]
    ·by_cases h4:a2=b2
     ·simp[lF,h2,h4]
     ·have h5:a2>b2:=(by omega);simp[lF,h2,h3,h4,h5]
   ·have h5:a1>b1:=(by omega);simp[lF,h1,h2,h5]
def In(l:List Nd)(i:Int):Prop:=0≤i∧i.toNat<l.length
theorem In.len{i:Int}(h:In l i)(e:l'.length=l.length):In l' i:=⟨h.1,by rw[e];exact h.2⟩
theorem oB{i:Int}(h:In l i):l[i.toNat]?=some (nth l i):=by rw[nth,lB,gG h.2];rfl
abbrev hh(l:List Nd)(i:Int):Int:=(nth l i).2.2.2.2
section
variable {w0 w:World} {S0 R0:Nat→Prop} {F G:SP} {l:List Nd} {s:Sl} {i:Int}
theorem iY(h:au w0 S0 R0 w F)[t:Rd s F KN l](hi:In l i)(hk:k (s.ix i.toNat n) w):idx s i n k w:=bT (s:=s) h hi.1 hi.2 hk
theorem Lh{k:Int→WP}(h:au w0 S0 R0 w F)[t:Rd s F KN l](hi:In l i)(hk:k (lt l i) w):ld [.int .i64] ⟨(s.ix i.toNat 5).b,(s.ix i.toNat 5).o+2⟩ k w:=eh h s i.toNat 2 (nth l i) (oB hi) rfl (by decide) rfl hk
theorem Oa{k:Int→WP}(h:au w0 S0 R0 w F)[t:Rd s F KN l](hi:In l i)(hk:k (bX l i) w):ld [.int .i64] ⟨(s.ix i.toNat 5).b,(s.ix i.toNat 5).o+3⟩ k w:=eh h s i.toNat 3 (nth l i) (oB hi) rfl (by decide) rfl hk
theorem rdH{k:Int→WP}(h:au w0 S0 R0 w F)[t:Rd s F KN l](hi:In l i)(hk:k (hh l i) w):ld [.int .i64] ⟨(s.ix i.toNat 5).b,(s.ix i.toNat 5).o+4⟩ k w:=eh h s i.toNat 4 (nth l i) (oB hi) rfl (by decide) rfl hk
theorem Xb{k:Int×Int→WP}(h:au w0 S0 R0 w F)[t:Rd s F KN l](hi:In l i)(hk:k (jL l i) w):ld [.int .u64,.int .u64] (s.ix i.toNat 5) k w:=eh h s i.toNat 0 (nth l i) (oB hi) rfl (by decide) rfl hk
theorem ckR(h:au w0 S0 R0 w F)[t:Rd s F KN l](hi:In l i)(hk:A w):cw ⟨(s.ix i.toNat 5).b,(s.ix i.toNat 5).o+3⟩ (Ks.mk [.int .i64] (bX l i)) A w:=AW h s i.toNat 3 (nth l i) (oB hi) rfl (by decide) rfl hk
theorem YP{v:Int}(h:au w0 S0 R0 w F)[t:mT s F KN l G](hi:In l i)(hk:∀w',au w0 S0 R0 w' (aQ s KN (cX l i v)^G)→A w'):st ⟨(s.ix i.toNat 5).b,(s.ix i.toNat 5).o+2⟩ [aJ v] A w:=mE h s i.toNat 2 (nth l i) ((nth l i).1,(nth l i).2.1,v,(nth l i).2.2.2.1,(nth l i).2.2.2.2) (oB hi) rfl (by simp) (by simp) rfl hk
theorem YQ{v:Int}(h:au w0 S0 R0 w F)[t:mT s F KN l G](hi:In l i)(hk:∀w',au w0 S0 R0 w' (aQ s KN (cY l i v)^G)→A w'):st ⟨(s.ix i.toNat 5).b,(s.ix i.toNat 5).o+3⟩ [aJ v] A w:=mE h s i.toNat 3 (nth l i) ((nth l i).1,(nth l i).2.1,(nth l i).2.2.1,v,(nth l i).2.2.2.2) (oB hi) rfl (by simp) (by simp) rfl hk
end
def Lk(l:List Nd)(B:Int):Prop:=∀i,In l i→(lt l i=-1∨In l (lt l i))∧(bX l i=-1∨In l (bX l i))∧0≤hh l i∧hh l i≤B
theorem Lk.mono{B C:Int}(h:Lk l B)(hb:B≤C):Lk l C:=λi hi=>⟨(h i hi).1,(h i hi).2.1,(h i hi).2.2.1,xy (h i hi).2.2.2 hb⟩
theorem vN{i j:Int}(hi:In l i):nth (l.set i.toNat x) j=if j.toNat=i.toNat then x else nth l j:=by
 have hl:=hi.2;by_cases e:i.toNat=j.toNat
 ·simp[nth,lB,List.getElem?_set,e,show j.toNat<l.length by omega]
 ·simp[nth,lB,List.getElem?_set,e,mD e]
theorem Lk.set{B C:Int}(h:Lk l B)(hb:B≤C){i:Int}(hi:In l i)(h1:x.2.2.1=-1∨In l x.2.2.1)(h2:x.2.2.2.1=-1∨In l x.2.2.2.1)(h3:0≤x.2.2.2.2∧x.2.2.2.2≤C):Lk (l.set i.toNat x) C:=by
 have hlen:(l.set i.toNat x).length=l.length:=rb;intro j hj;have hj:In l j:=hj.len hlen.symm;simp only[Tree.lt,bX,hh,vN hi];split
 ·exact⟨h1.imp id (·.len hlen),h2.imp id (·.len hlen),h3⟩
 ·have:=h j hj;exact⟨this.1.imp id (·.len hlen),this.2.1.imp id (·.len hlen),this.2.2.1,xy this.2.2.2 hb⟩
theorem rZ{B:Int}(h:Lk l B){i:Int}(hi:i=-1∨In l i)(hB:0≤B):0≤A5 l i∧A5 l i≤B:=by
 unfold A5;split
 ·omega
 ·exact(h i (hi.resolve_left (by assumption))).2.2
theorem Lk.lt{B:Int}(h:Lk l B){i v:Int}(hi:In l i)(hv:v=-1∨In l v):Lk (cX l i v) B:=h.set (ig _) hi hv (h i hi).2.1 (h i hi).2.2
theorem Lk.rt{B:Int}(h:Lk l B){i v:Int}(hi:In l i)(hv:v=-1∨In l v):Lk (cY l i v) B:=h.set (ig _) hi (h i hi).1 hv (h i hi).2.2
theorem Lk.E6{B:Int}(h:Lk l B)(hB:0≤B){i:Int}(hi:In l i):Lk (bi l i) (B+1):=by
 have h1:=rZ h (h i hi).1 hB;have h2:=rZ h (h i hi).2.1 hB;exact h.set (by omega) hi (h i hi).1 (h i hi).2.1 ⟨by show 0≤max _ _+1;omega,by show max _ _+1≤_;omega⟩
theorem Lk.Je{B:Int}(h:Lk l B)(hB:0≤B){i:Int}(hi:In l i)(hr:In l (bX l i)):Lk (dn l i).1 (B+2):=by
 have a:=(h.rt hi (h _ hr).1);have b:=a.lt (hr.len (cV _ _ _)) (.inr (hi.len (cV _ _ _)));have c:=b.E6 hB (hi.len (by rw[cT,cV]));have d:=c.E6 (by omega) (hr.len (by rw[gz,cT,cV]));exact d.mono (by omega)
theorem Lk.Jf{B:Int}(h:Lk l B)(hB:0≤B){i:Int}(hi:In l i)(hr:In l (Tree.lt l i)):Lk (du l i).1 (B+2):=by
 have a:=(h.lt hi (h _ hr).2.1);have b:=a.rt (hr.len (cT _ _ _)) (.inr (hi.len (cT _ _ _)));have c:=b.E6 hB (hi.len (by rw[cV,cT]));have d:=c.E6 (by omega) (hr.len (by rw[gz,cV,cT]));exact d.mono (by omega)
theorem CU{B:Int}(h:Lk l B)(hB:0≤B){i:Int}(hi:In l i)(hl:iT l i>0):In l (Tree.lt l i):=by
 refine(h i hi).1.resolve_left λe=>?_;have:=rZ h (h i hi).2.1 hB;rw[iT,e,A5,aF rfl]at hl;omega
theorem CV{B:Int}(h:Lk l B)(hB:0≤B){i:Int}(hi:In l i)(hl:iT l i<0):In l (bX l i):=by
 refine(h i hi).2.1.resolve_left λe=>?_;have:=rZ h (h i hi).1 hB;have e2:A5 l (bX l i)=0:=by rw[e];rfl
 rw[iT,e2]at hl;omega
theorem Lk.even{B:Int}(h:Lk l B)(hB:0≤B){i:Int}(hi:In l i):Lk (fT l i).1 (B+5)∧In l (fT l i).2:=by
 have m:=h.E6 hB hi;have hi1:In (bi l i) i:=hi.len (gz _ _);unfold fT;split
 ·rename_i c;have hl:=CU m (by omega) hi1 (by omega);split
  ·rename_i c2;have hlr:=CV m (by omega) hl c2;have t:=m.Je (by omega) hl hlr;have hlt:=tq (bi l i) (Tree.lt (bi l i) i);have s1:=t.lt (v:=(dn (bi l i) (Tree.lt (bi l i) i)).2) (hi1.len hlt) (.inr (hlr.len hlt));have hl2:In (cX (dn (bi l i) (Tree.lt (bi l i) i)).1 i (dn (bi l i) (Tree.lt (bi l i) i)).2) i:=hi1.len (by rw[cT,hlt]);have hl3:Tree.lt (cX (dn (bi l i) (Tree.lt (bi l i) i)).1 i (dn (bi l i) (Tree.lt (bi l i) i)).2) i=bX (bi l i) (Tree.lt (bi l i) i):=by simp only[Tree.lt,cX,vN (hi1.len hlt),iF];rfl
   have hl4:In (cX (dn (bi l i) (Tree.lt (bi l i) i)).1 i (dn (bi l i) (Tree.lt (bi l i) i)).2) (Tree.lt (cX (dn (bi l i) (Tree.lt (bi l i) i)).1 i (dn (bi l i) (Tree.lt (bi l i) i)).2) i):=(by rw[hl3];exact hlr.len (by rw[cT,hlt]));refine⟨(s1.Jf (by omega) hl2 hl4).mono (by omega),?_⟩;exact hl4.len (by rw[cT,hlt,gz])
  ·exact⟨(m.Jf (by omega) hi1 hl).mono (by omega),hl.len (gz _ _).symm⟩
 ·split
  ·rename_i c;have hl:=CV m (by omega) hi1 (by omega);split
   ·rename_i c2;have hlr:=CU m (by omega) hl c2;have t:=m.Jf (by omega) hl hlr;have hlt:=tu (bi l i) (bX (bi l i) i);have s1:=t.rt (v:=(du (bi l i) (bX (bi l i) i)).2) (hi1.len hlt) (.inr (hlr.len hlt));have hl2:In (cY (du (bi l i) (bX (bi l i) i)).1 i (du (bi l i) (bX (bi l i) i)).2) i:=hi1.len (by rw[cV,hlt]);have hl3:bX (cY (du (bi l i) (bX (bi l i) i)).1 i (du (bi l i) (bX (bi l i) i)).2) i=Tree.lt (bi l i) (bX (bi l i) i):=by simp only[bX,cY,vN (hi1.len hlt),iF];rfl
    have hl4:In (cY (du (bi l i) (bX (bi l i) i)).1 i (du (bi l i) (bX (bi l i) i)).2) (bX (cY (du (bi l i) (bX (bi l i) i)).1 i (du (bi l i) (bX (bi l i) i)).2) i):=(by rw[hl3];exact hlr.len (by rw[cV,hlt]));refine⟨(s1.Je (by omega) hl2 hl4).mono (by omega),?_⟩;exact hl4.len (by rw[cV,hlt,gz])
   ·exact⟨(m.Je (by omega) hi1 hl).mono (by omega),hl.len (gz _ _).symm⟩
  ·exact⟨m.mono (by omega),hi⟩
section
variable (t:Nat) (ap:bO) (s:Sl) (tp sz rm:Int) (l:List Nd)
theorem vF(i:Int)(hi:i=-1∨In l i):bx (JL (some ⟨t,0⟩) i) (ah t [.ptr ap,aX s,aJ tp,aJ sz,aJ rm]^aQ s KN l) (λr=>br (r=A5 l i) (ah t [.ptr ap,aX s,aJ tp,aJ sz,aJ rm]^aQ s KN l)):=
 bF λw0 S R h=>by
  refine ae (λc=>?_) λc=>?_
  ·have c:i=-1:=cS;exact au.aH (by rw[c];rfl) h
  ·have c:i≠-1:=cS;have hi:=hi.resolve_left c;refine ac (aj h rfl (iY h hi (rdH h hi ?_)));exact au.aH (by rw[A5,aw c]) h
theorem sr(i:Int)(hi:In l i)(B:Int)(hk:Lk l B)(hB:0≤B)(hB2:B<4611686018427387904):bx (Gr (some ⟨t,0⟩) i) (ah t [.ptr ap,aX s,aJ tp,aJ sz,aJ rm]^aQ s KN l) (λ_=>ah t [.ptr ap,aX s,aJ tp,aJ sz,aJ rm]^aQ s KN (bi l i)):=
 bF λw0 S R h=>by
  have h1:=rZ hk (hk i hi).1 hB;have h2:=rZ hk (hk i hi).2.1 hB;refine ac (aj h rfl (iY h hi (aM h λw h=>ac (ac (Lh h hi (Oa h hi ?_))))));refine aI (vF t ap s tp sz rm l _ (hk i hi).1) h λw h=>?_;refine ckR h hi ?_;refine aI (vF t ap s tp sz rm l _ (hk i hi).2.1) h λw h=>?_;have e:i64.wrap ((if A5 l (bX l i)>A5 l (Tree.lt l i)then A5 l (bX l i)else A5 l (Tree.lt l i))+(1:Int))=max (A5 l (Tree.lt l i)) (A5 l (bX l i))+1:=by rw[wi (by split<;>omega) (by split<;>omega)];split<;>omega
  rw[e];refine ac ?_;refine mE h s i.toNat 4 (nth l i) ((nth l i).1,(nth l i).2.1,(nth l i).2.2.1,(nth l i).2.2.2.1,max (A5 l (Tree.lt l i)) (A5 l (bX l i))+1) (oB hi) rfl (by simp) (by simp) rfl λw h=>?_;have h:=h.eD (s:=s) (K:=KN) (ys:=bi l i) rfl;exact h.aK
theorem zy(i:Int)(hi:In l i)(B:Int)(hk:Lk l B)(hB:0≤B)(hB2:B<4611686018427387904):bx (L9 (some ⟨t,0⟩) i) (ah t [.ptr ap,aX s,aJ tp,aJ sz,aJ rm]^aQ s KN l) (λr=>br (r=iT l i) (ah t [.ptr ap,aX s,aJ tp,aJ sz,aJ rm]^aQ s KN l)):=
 bF λw0 S R h=>by
  have h1:=rZ hk (hk i hi).1 hB;have h2:=rZ hk (hk i hi).2.1 hB;refine aM h λw h=>ac (ac (aj h rfl (aj h rfl (iY h hi (iY h hi (Lh h hi (Oa h hi ?_)))))));refine aI (vF t ap s tp sz rm l _ (hk i hi).1) h λw h=>?_;refine ckR h hi (aN h rfl ?_);refine aI (vF t ap s tp sz rm l _ (hk i hi).2.1) h λw h=>?_;rw[fu];exact au.aH rfl h.aK
theorem xK(i:Int)(hi:In l i)(hr:In l (bX l i))(B:Int)(hk:Lk l B)(hB:0≤B)(hB2:B+1<4611686018427387904):bx (L_ (some ⟨t,0⟩) i) (ah t [.ptr ap,aX s,aJ tp,aJ sz,aJ rm]^aQ s KN l) (λr=>br (r=(dn l i).2) (ah t [.ptr ap,aX s,aJ tp,aJ sz,aJ rm]^aQ s KN ((dn l i).1))):=
 bF λw0 S R h=>by
  refine ac (aj h rfl (iY h hi (Oa h hi ?_)));refine aM h λw h=>ac (ac (ac (aj h rfl (aj h rfl (aj h rfl (iY h hr (Lh h hr ?_)))))));refine iY h hi (YQ h hi λw h=>?_);have a:=(hk.rt hi (hk _ hr).1);have hr1:=hr.len (cV l i (Tree.lt l (bX l i)));refine iY h hr1 (YP h hr1 λw h=>?_);have b:=a.lt hr1 (.inr (hi.len (cV l i (Tree.lt l (bX l i)))));have hi2:In (cX (cY l i (Tree.lt l (bX l i))) (bX l i) i) i:=hi.len (by rw[cT,cV]);refine aq (sr t ap s tp sz rm _ i hi2 B b hB (by omega)) h λ_ w h=>?_;have c:=b.E6 hB hi2;refine aq (sr t ap s tp sz rm _ (bX l i) (hr.len (by rw[gz,cT,cV])) (B+1) c (by omega) (by omega)) h λ_ w h=>?_;have h:=h.eD (s:=s) (K:=KN) (ys:=(dn l i).1) rfl;exact au.aH rfl h.aK
theorem xM(i:Int)(hi:In l i)(hr:In l (Tree.lt l i))(B:Int)(hk:Lk l B)(hB:0≤B)(hB2:B+1<4611686018427387904):bx (Ma (some ⟨t,0⟩) i) (ah t [.ptr ap,aX s,aJ tp,aJ sz,aJ rm]^aQ s KN l) (λr=>br (r=(du l i).2) (ah t [.ptr ap,aX s,aJ tp,aJ sz,aJ rm]^aQ s KN ((du l i).1))):=
 bF λw0 S R h=>by
  refine ac (aj h rfl (iY h hi (Lh h hi ?_)));refine aM h λw h=>ac (ac (ac (aj h rfl (aj h rfl (aj h rfl (iY h hr (Oa h hr ?_)))))));refine iY h hi (YP h hi λw h=>?_);have a:=(hk.lt hi (hk _ hr).2.1);have hr1:=hr.len (cT l i (bX l (Tree.lt l i)));refine iY h hr1 (YQ h hr1 λw h=>?_);have b:=a.rt hr1 (.inr (hi.len (cT l i (bX l (Tree.lt l i)))));have hi2:In (cY (cX l i (bX l (Tree.lt l i))) (Tree.lt l i) i) i:=hi.len (by rw[cV,cT]);refine aq (sr t ap s tp sz rm _ i hi2 B b hB (by omega)) h λ_ w h=>?_;have c:=b.E6 hB hi2;refine aq (sr t ap s tp sz rm _ (Tree.lt l i) (hr.len (by rw[gz,cV,cT])) (B+1) c (by omega) (by omega)) h λ_ w h=>?_;have h:=h.eD (s:=s) (K:=KN) (ys:=(du l i).1) rfl;exact au.aH rfl h.aK
theorem vq(i:Int)(hi:In l i)(B:Int)(hk:Lk l B)(hB:0≤B)(hB2:B+5<4611686018427387904):bx (JI (some ⟨t,0⟩) i) (ah t [.ptr ap,aX s,aJ tp,aJ sz,aJ rm]^aQ s KN l) (λr=>br (r=(fT l i).2) (ah t [.ptr ap,aX s,aJ tp,aJ sz,aJ rm]^aQ s KN ((fT l i).1))):=
 bF λw0 S R h=>by
  refine aq (sr t ap s tp sz rm l i hi B hk hB (by omega)) h λ_ w h=>?_;have m:=hk.E6 hB hi;have hi1:In (bi l i) i:=hi.len (gz _ _);refine aI (zy t ap s tp sz rm (bi l i) i hi1 (B+1) m (by omega) (by omega)) h λw h=>?_;have hdef:fT l i=if iT (bi l i) i>1 then
    du (if iT (bi l i) (Tree.lt (bi l i) i)<0 then cX (dn (bi l i) (Tree.lt (bi l i) i)).1 i (dn (bi l i) (Tree.lt (bi l i) i)).2 else bi l i) i
   else if iT (bi l i) i< -1 then
    dn (if iT (bi l i) (bX (bi l i) i)>0 then cY (du (bi l i) (bX (bi l i) i)).1 i (du (bi l i) (bX (bi l i) i)).2 else bi l i) i
   else(bi l i,i):=rfl
  rw[hdef];clear hdef;generalize bi l i=l at*
  refine ae (λc=>?_) λc=>?_
  ·have c:iT l i>1:=bZ c;rw[aF c];have hl:=CU m (by omega) hi1 (by omega);refine ac (aj h rfl (iY h hi1 (Lh h hi1 ?_)));refine aI (zy t ap s tp sz rm l _ hl (B+1) m (by omega) (by omega)) h λw h=>?_;refine ae (λc2=>?_) λc2=>?_
   ·have c2:iT l (Tree.lt l i)<0:=bZ c2;rw[aF c2];have hlr:=CV m (by omega) hl c2;have tt:=m.Je (by omega) hl hlr;have hlt:=tq l (Tree.lt l i);refine aM h λw h=>ac (ac (aj h rfl (aj h rfl (iY h hi1 (Lh h hi1 ?_)))));refine aI (xK t ap s tp sz rm l _ hl hlr (B+1) m (by omega) (by omega)) h λw h=>?_;have hr2:(dn l (Tree.lt l i)).2=bX l (Tree.lt l i):=rfl;have hi2:In (dn l (Tree.lt l i)).1 i:=hi1.len hlt;refine aN h rfl (iY h hi2 (YP h hi2 λw h=>?_));have s1:=tt.lt (v:=(dn l (Tree.lt l i)).2) hi2 (.inr (hlr.len hlt));have hi3:In (cX (dn l (Tree.lt l i)).1 i (dn l (Tree.lt l i)).2) i:=hi2.len (cT _ _ _);have hl3:Tree.lt (cX (dn l (Tree.lt l i)).1 i (dn l (Tree.lt l i)).2) i=bX l (Tree.lt l i):=(by simp only[Tree.lt,cX,vN hi2,iF];rfl);have hl4:In (cX (dn l (Tree.lt l i)).1 i (dn l (Tree.lt l i)).2) (Tree.lt (cX (dn l (Tree.lt l i)).1 i (dn l (Tree.lt l i)).2) i):=(by rw[hl3];exact hlr.len (by rw[cT,hlt]));generalize cX (dn l (Tree.lt l i)).1 i (dn l (Tree.lt l i)).2=l2 at*
    refine aI (xM t ap s tp sz rm l2 i hi3 hl4 _ s1 (by omega) (by omega)) h λw h=>?_;exact au.aH rfl h.aK
   ·have c2:¬iT l (Tree.lt l i)<0:=cd c2;rw[aw c2];refine aI (xM t ap s tp sz rm l i hi1 hl _ m (by omega) (by omega)) h λw h=>?_;exact au.aH rfl h.aK
  have c:¬iT l i>1:=cd c;rw[aw c];refine ae (λc=>?_) λc=>?_
  ·have c:iT l i< -1:=bZ c;rw[aF c];have hl:=CV m (by omega) hi1 (by omega);refine ac (aj h rfl (iY h hi1 (Oa h hi1 ?_)));refine aI (zy t ap s tp sz rm l _ hl (B+1) m (by omega) (by omega)) h λw h=>?_;refine ae (λc2=>?_) λc2=>?_
   ·have c2:iT l (bX l i)>0:=bZ c2;rw[aF c2];have hlr:=CU m (by omega) hl c2;have tt:=m.Jf (by omega) hl hlr;have hlt:=tu l (bX l i);refine aM h λw h=>ac (ac (aj h rfl (aj h rfl (iY h hi1 (Oa h hi1 ?_)))));refine aI (xM t ap s tp sz rm l _ hl hlr (B+1) m (by omega) (by omega)) h λw h=>?_;have hi2:In (du l (bX l i)).1 i:=hi1.len hlt;refine aN h rfl (iY h hi2 (YQ h hi2 λw h=>?_));have s1:=tt.rt (v:=(du l (bX l i)).2) hi2 (.inr (hlr.len hlt));have hi3:In (cY (du l (bX l i)).1 i (du l (bX l i)).2) i:=hi2.len (cV _ _ _);have hl3:bX (cY (du l (bX l i)).1 i (du l (bX l i)).2) i=Tree.lt l (bX l i):=(by simp only[bX,cY,vN hi2,iF];rfl);have hl4:In (cY (du l (bX l i)).1 i (du l (bX l i)).2) (bX (cY (du l (bX l i)).1 i (du l (bX l i)).2) i):=(by rw[hl3];exact hlr.len (by rw[cV,hlt]));generalize cY (du l (bX l i)).1 i (du l (bX l i)).2=l2 at*
    refine aI (xK t ap s tp sz rm l2 i hi3 hl4 _ s1 (by omega) (by omega)) h λw h=>?_;exact au.aH rfl h.aK
   ·have c2:¬iT l (bX l i)>0:=cd c2;rw[aw c2];refine aI (xK t ap s tp sz rm l i hi1 hl _ m (by omega) (by omega)) h λw h=>?_;exact au.aH rfl h.aK
  have c:¬iT l i< -1:=cd c;rw[aw c];exact au.aH rfl h.aK
end
theorem FT{ws:List Int}{n:Nat}{x:Int}(h:ws[n]?=some x):(ws.take (n+1)).reverse=x::(ws.take n).reverse:=by rw[lC,h];simp
theorem MQ(t:Nat)(ap:bO)(s:Sl)(tp sz rm:Int)(l:List Nd)(o:Sl)(ws:List Int)(was i:Int)(hw:∀x∈ws,In l x)(hi:In l i)(B:Int)(hk:Lk l B)(hB:0≤B)(hB2:B+5*ws.length<4611686018427387904)(hll:l.length<4611686018427387904):
  bx (T4 (some ⟨t,0⟩) o was i) ((ah t [.ptr ap,aX s,aJ tp,aJ sz,aJ rm]^aQ s KN l)^aZ o KI ws)
   (λ_=>ah t [.ptr ap,aX s,aJ ((iS l was i ws.reverse).2+1),aJ sz,aJ rm]^aQ s KN (iS l was i ws.reverse).1):=
 bF λw0 S R h=>by
  have h:au w0 S R w0 (aZ o KI ws^(ah t [.ptr ap,aX s,aJ tp,aJ sz,aJ rm]^aQ s KN l)):=h.le (aU _ _);have hlen:=(h.rd (s:=o)).2;have e0:i64.wrap (((o.len:Nat):Int)-1)=(ws.length:Int)-1:=by rw[hlen];exact fu
  rw[e0];refine fV (λ(_:A_) (x:List Nd)=>aZ o KI ws^(ah t [.ptr ap,aX s,aJ tp,aJ sz,aJ rm]^aQ s KN x)) (λ(y:A_) (x:List Nd)=>(-1≤y.2.2∧y.2.2<(ws.length:Int))∧x.length=l.length∧In x y.2.1∧Lk x (B+5*((ws.length:Int)-1-y.2.2))∧iS l was i ws.reverse=iS x y.1 y.2.1 (ws.take (y.2.2+1).toNat).reverse) (λ(y:A_) _=>(y.2.2+1).toNat) l h ?_ ?_
  ·refine⟨⟨by show-1≤(ws.length:Int)-1;omega,by show(ws.length:Int)-1<_;omega⟩,rfl,hi,?_,?_⟩
   ·exact hk.mono (by show B≤B+5*((ws.length:Int)-1-((ws.length:Int)-1));omega)
   ·show iS l was i ws.reverse=iS l was i (ws.take (((ws.length:Int)-1)+1).toNat).reverse;rw[kF (by omega)]
  rintro K (⟨wa,j,n⟩:A_) x w ⟨⟨n0,n1⟩,hx,hj,hkx,he⟩ h hK;dsimp only at n0 n1 hx hj hkx he hK⊢;refine ae (λc=>?_) λc=>?_
  ·have c:n≥0:=bZ c;have hn:n.toNat<ws.length:=(by omega);obtain⟨up,hup⟩:∃p,ws[n.toNat]?=some p:=⟨_,bV hn⟩;have hu:In x up:=(hw up (jr hup)).len hx;have en:(n+1).toNat=n.toNat+1:=(by omega);rw[en,FT hup,iS]at he;refine bT (s:=o) h c hn (eE h o n.toNat hup rfl ?_);have en1:i64.wrap (n-1)=n-1:=fu;have en2:(n-1+1).toNat=n.toNat:=(by omega);refine aS h (λ_=>aZ o KI ws^(ah t [.ptr ap,aX s,aJ tp,aJ sz,aJ rm]^aQ s KN x)) (λy:Bool=>y=decide (Tree.lt x up=wa∧(wa≠-1∨lF (jL x j) (jL x up)=true))) (λ(y:Bool) w hy h=>?_) ?_
   ·rw[hy];refine ae (λc2=>?_) λc2=>?_
    ·have c2:=bZ c2;rw[aF c2]at he;refine ac (aj h rfl (iY (s:=s) h hu (YP h hu λw h=>?_)));have k1:=hkx.lt hu (.inr hj);have hu1:In (cX x up j) up:=hu.len (cT _ _ _);have k2:=k1.even (by omega) hu1;refine aq (vq t ap s tp sz rm (cX x up j) up hu1 _ k1 (by omega) (by omega)) h λr w h=>?_;obtain⟨hr,h⟩:=h.aP;have hle:=qc (cX x up j) up;rw[cT]at hle;generalize fT (cX x up j) up=q at*
     rw[hr,en1];refine hK (up,q.2,n-1) q.1 w ⟨⟨by show-1≤n-1;omega,by show n-1<(ws.length:Int);omega⟩,hle.trans hx,k2.2.len (by rw[hle,cT]),k2.1.mono (by show _≤B+5*((ws.length:Int)-1-(n-1));omega),?_⟩ h.aK (by show(n-1+1).toNat<_;omega);show _=iS q.1 up q.2 (ws.take (n-1+1).toNat).reverse;rw[en2];exact he
    ·have c2:=cd c2;rw[aw c2]at he;refine ac (aj h rfl (iY (s:=s) h hu (YQ h hu λw h=>?_)));have k1:=hkx.rt hu (.inr hj);have hu1:In (cY x up j) up:=hu.len (cV _ _ _);have k2:=k1.even (by omega) hu1;refine aq (vq t ap s tp sz rm (cY x up j) up hu1 _ k1 (by omega) (by omega)) h λr w h=>?_;obtain⟨hr,h⟩:=h.aP;have hle:=qc (cY x up j) up;rw[cV]at hle;generalize fT (cY x up j) up=q at*
     rw[hr,en1];refine hK (up,q.2,n-1) q.1 w ⟨⟨by show-1≤n-1;omega,by show n-1<(ws.length:Int);omega⟩,hle.trans hx,k2.2.len (by rw[hle,cV]),k2.1.mono (by show _≤B+5*((ws.length:Int)-1-(n-1));omega),?_⟩ h.aK (by show(n-1+1).toNat<_;omega);show _=iS q.1 up q.2 (ws.take (n-1+1).toNat).reverse;rw[en2];exact he
   ·refine aM h λw h=>ac (aj h rfl (iY (s:=s) h hu (Lh h hu ?_)));refine ae (λc2=>?_) λc2=>?_
    ·have c2:Tree.lt x up=wa:=gJ;refine ae (λc3=>?_) λc3=>?_
     ·have c3:wa≠-1:=(by simpa using c3);exact⟨by rw[jH];simp[c2,c3],h⟩
     ·have c3:wa=-1:=(by simpa using c3);refine ac (ac (aj h rfl (aj h rfl (iY (s:=s) h hj (iY (s:=s) h hu (Xb h hj (Xb h hu ?_)))))));refine aq (EB (jL x j) (jL x up)) h λr w h=>?_;obtain⟨hr,h⟩:=h.aP;refine⟨?_,h.aK⟩;rw[jH,j_,j_,hr,M0];simp[c2,c3]
    ·have c2:Tree.lt x up≠wa:=gJ;exact⟨by rw[jH];simp[c2],h⟩
  ·have c:¬n≥0:=cd c;have en:(n+1).toNat=0:=(by omega);rw[en,Dy,List.reverse_nil,iS]at he;rw[he];have hr1:i64.wrap (j+1)=j+1:=wi (by have:=hj.1;omega) (by have:=hj.2;omega);rw[hr1];refine ac (be h rfl λw h=>?_);dsimp only[dE,over]at h;exact h.aK
theorem ov(t:Nat)(ap:bO)(s:Sl)(tp sz rm:Int)(l:List Nd)(o:Sl)(ws:List Int)(was i:Int)(hw:∀x∈ws,In l x)(hi:i=-1∨In l i)(B:Int)(hk:Lk l B)(hB:0≤B)(hB2:B+5*ws.length<4611686018427387904)(hll:l.length<4611686018427387904):
  bx (UF (some ⟨t,0⟩) o was i) ((ah t [.ptr ap,aX s,aJ tp,aJ sz,aJ rm]^aQ s KN l)^aZ o KI ws)
   (λ_=>ah t [.ptr ap,aX s,aJ ((lP l was i ws.reverse).2+1),aJ sz,aJ rm]^aQ s KN (lP l was i ws.reverse).1):=
 bF λw0 S R h=>by
  have h:au w0 S R w0 (aZ o KI ws^(ah t [.ptr ap,aX s,aJ tp,aJ sz,aJ rm]^aQ s KN l)):=h.le (aU _ _);have hlen:=(h.rd (s:=o)).2;have e0:i64.wrap (((o.len:Nat):Int)-1)=(ws.length:Int)-1:=by rw[hlen];exact fu
  rw[e0];refine fV (λ(_:A_) (x:List Nd)=>aZ o KI ws^(ah t [.ptr ap,aX s,aJ tp,aJ sz,aJ rm]^aQ s KN x)) (λ(y:A_) (x:List Nd)=>(-1≤y.2.2∧y.2.2<(ws.length:Int))∧x.length=l.length∧(y.2.1=-1∨In x y.2.1)∧Lk x (B+5*((ws.length:Int)-1-y.2.2))∧lP l was i ws.reverse=lP x y.1 y.2.1 (ws.take (y.2.2+1).toNat).reverse) (λ(y:A_) _=>(y.2.2+1).toNat) l h ?_ ?_
  ·refine⟨⟨by show-1≤(ws.length:Int)-1;omega,by show(ws.length:Int)-1<_;omega⟩,rfl,hi,?_,?_⟩
   ·exact hk.mono (by show B≤B+5*((ws.length:Int)-1-((ws.length:Int)-1));omega)
   ·show lP l was i ws.reverse=lP l was i (ws.take (((ws.length:Int)-1)+1).toNat).reverse;rw[kF (by omega)]
  rintro K (⟨wa,j,n⟩:A_) x w ⟨⟨n0,n1⟩,hx,hj,hkx,he⟩ h hK;dsimp only at n0 n1 hx hj hkx he hK⊢;refine ae (λc=>?_) λc=>?_
  ·have c:n≥0:=bZ c;have hn:n.toNat<ws.length:=(by omega);obtain⟨up,hup⟩:∃p,ws[n.toNat]?=some p:=⟨_,bV hn⟩;have hu:In x up:=(hw up (jr hup)).len hx;have en:(n+1).toNat=n.toNat+1:=(by omega);rw[en,FT hup,lP]at he;refine bT (s:=o) h c hn (eE h o n.toNat hup rfl ?_);have en1:i64.wrap (n-1)=n-1:=fu;have en2:(n-1+1).toNat=n.toNat:=(by omega);refine ac (aj h rfl (iY (s:=s) h hu (Lh h hu ?_)));refine ae (λc2=>?_) λc2=>?_
   ·have c2:Tree.lt x up=wa:=gJ;rw[aF c2]at he;refine ac (aj h rfl (iY (s:=s) h hu (YP h hu λw h=>?_)));have k1:=hkx.lt hu hj;have hu1:In (cX x up j) up:=hu.len (cT _ _ _);have k2:=k1.even (by omega) hu1;refine aq (vq t ap s tp sz rm (cX x up j) up hu1 _ k1 (by omega) (by omega)) h λr w h=>?_;obtain⟨hr,h⟩:=h.aP;have hle:=qc (cX x up j) up;rw[cT]at hle;generalize fT (cX x up j) up=q at*
    rw[hr,en1];refine hK (up,q.2,n-1) q.1 w ⟨⟨by show-1≤n-1;omega,by show n-1<(ws.length:Int);omega⟩,hle.trans hx,.inr (k2.2.len (by rw[hle,cT])),k2.1.mono (by show _≤B+5*((ws.length:Int)-1-(n-1));omega),?_⟩ h.aK (by show(n-1+1).toNat<_;omega);show _=lP q.1 up q.2 (ws.take (n-1+1).toNat).reverse;rw[en2];exact he
   ·have c2:Tree.lt x up≠wa:=gJ;rw[aw c2]at he;refine ac (aj h rfl (iY (s:=s) h hu (YQ h hu λw h=>?_)));have k1:=hkx.rt hu hj;have hu1:In (cY x up j) up:=hu.len (cV _ _ _);have k2:=k1.even (by omega) hu1;refine aq (vq t ap s tp sz rm (cY x up j) up hu1 _ k1 (by omega) (by omega)) h λr w h=>?_;obtain⟨hr,h⟩:=h.aP;have hle:=qc (cY x up j) up;rw[cV]at hle;generalize fT (cY x up j) up=q at*
    rw[hr,en1];refine hK (up,q.2,n-1) q.1 w ⟨⟨by show-1≤n-1;omega,by show n-1<(ws.length:Int);omega⟩,hle.trans hx,.inr (k2.2.len (by rw[hle,cV])),k2.1.mono (by show _≤B+5*((ws.length:Int)-1-(n-1));omega),?_⟩ h.aK (by show(n-1+1).toNat<_;omega);show _=lP q.1 up q.2 (ws.take (n-1+1).toNat).reverse;rw[en2];exact he
  ·have c:¬n≥0:=cd c;have en:(n+1).toNat=0:=(by omega);rw[en,Dy,List.reverse_nil,lP]at he;rw[he];have hr1:i64.wrap (j+1)=j+1:=by
    rcases hj with hj|hj
    ·exact fu
    ·exact wi (by have:=hj.1;omega) (by have:=hj.2;omega)
   rw[hr1];refine ac (be h rfl λw h=>?_);dsimp only[dE,over]at h;exact h.aK
end Bz

namespace Ei
open _root_.Go.X.Tree Bz
theorem Ki(n:Int):bx (Z7 n) bg (λr=>ex λa:Nat=>br (r=some ⟨a,0⟩) (ah a [aX ⟨none,0,0⟩,aX ⟨none,0,0⟩,aJ (min (max n 0) 4096)])):=
 bF λw0 S R h=>by
  have e:(if(4096:Int)<(if(0:Int)>n then(0:Int)else n)then(4096:Int)else(if(0:Int)>n then(0:Int)else n))=min (max n 0) 4096:=by(repeat' split)<;>omega
  rw[e];refine aD h λa w h=>?_;exact au.gI a (au.aH rfl h.aK)
section
variable (a:Nat) (s1 s2:Sl) (us:List Bool) (fr:List Int) (rm:Int)
theorem QY(i:Int)(f:List Int)(hf:fr=f++[i])(hi:0≤i∧i.toNat<us.length)(hl:fr.length<4611686018427387904):bx (P4 (some ⟨a,0⟩)) (ah a [aX s1,aX s2,aJ rm]^aQ s1 KB us^aQ s2 KI fr)
  (λr=>ex λs2':Sl=>br (r=(i,0)) (ah a [aX s1,aX s2',aJ rm]^aQ s1 KB (us.set i.toNat true)^aQ s2' KI f)):=
 bF λw0 S R h=>by
  have h:au w0 S R w0 (aQ s1 KB us^aQ s2 KI fr^ah a [aX s1,aX s2,aJ rm]):=h.aK;have hl2:=(h.drop.rd (s:=s2)).2;have hfl:fr.length=f.length+1:=by rw[hf];simp
  refine ae (λc=>(by cases c)) λ_=>ac (aj h rfl (ae (λc=>?_) λc=>?_))
  ·have e:i64.wrap (((s2.len:Nat):Int)-1)=(f.length:Int):=(by rw[hl2,hfl];rw[fu];omega);have hat:fr[((f.length:Nat):Int).toNat]?=some i:=(by rw[hf];simp);dsimp only;rw[e];refine ac (aj h rfl (bT (s:=s2) h (by omega) (by omega) (eE h s2 ((f.length:Nat):Int).toNat hat rfl (ac (aj h rfl ?_)))));have hc:=pg (s:=s2) h;refine wD (s:=s2) h 0 f.length s2.cap rfl rfl rfl rfl (by omega) (by omega) (by omega) (by omega) λs' hs1 hs2 h=>?_;have e2:(fr.take f.length).drop 0=f:=(by rw[hf];simp);have h:=h.eD (s:=s') (K:=KI) e2;refine ac (be h rfl λw h=>?_);dsimp only[dE,over]at h;refine ac (aj h rfl ?_);refine bT (s:=s1) h hi.1 hi.2 ?_;refine mE h s1 i.toNat 0 us[i.toNat] true (bV hi.2) rfl (by simp) (by simp) rfl λw h=>?_;exact au.gI s' (au.aH rfl h.aK)
  ·have c:¬((s2.len:Nat):Int)>0:=cd c;omega
theorem QX(hl:(us.length:Int)<rm)(hr:rm≤4096):bx (P4 (some ⟨a,0⟩)) (ah a [aX s1,aX s2,aJ rm]^aQ s1 KB us^aQ s2 KI [])
  (λr=>ex λs1':Sl=>br (r=((us.length:Int),0)) (ah a [aX s1',aX s2,aJ rm]^aQ s1' KB (us++[true])^aQ s2 KI [])):=
 bF λw0 S R h=>by
  have h:au w0 S R w0 (aQ s1 KB us^aQ s2 KI []^ah a [aX s1,aX s2,aJ rm]):=h.aK;have hl2:=(h.drop.rd (s:=s2)).2;have hl1:=(h.rd (s:=s1)).2;refine ae (λc=>(by cases c)) λ_=>ac (aj h rfl (ae (λc=>?_) λ_=>?_))
  ·have c:((s2.len:Nat):Int)>0:=bZ c;have:s2.len=0:=hl2;omega
  refine aM h λw h=>ac (ac (aj h rfl (aj h rfl (ae (λc=>?_) λ_=>?_))))
  ·have c:((s1.len:Nat):Int)≥rm:=bZ c;omega
  refine ac (aj h rfl ?_);refine aD h λn w h=>?_;have h:=h.ct n KB [true] rfl (by simp);refine dF (s:=s1) (x:=⟨some ⟨n,0⟩,1,1⟩) h rfl (by simp;omega) λs' w hs' h=>?_;refine ac (be h rfl λw h=>?_);dsimp only[dE,over]at h;refine ac (aj h rfl ?_);have e:i64.wrap (((s'.len:Nat):Int)-1)=(us.length:Int):=by
   have:s'.len=us.length+1:=(by simpa using hs');rw[this,fu];omega
  rw[e];exact au.gI s' (au.aH rfl h.aK)
theorem CP(i:Int)(hi:0≤i∧i.toNat<us.length):bx (U6 (some ⟨a,0⟩) i) (ah a [aX s1,aX s2,aJ rm]^aQ s1 KB us) (λr=>br (us[i.toNat]?=some r) (ah a [aX s1,aX s2,aJ rm]^aQ s1 KB us)):=
 bF λw0 S R h=>by
  have hl1:=(h.drop.rd (s:=s1)).2;refine ae (λ_=>?_) λc=>?_
  ·refine ac (aj h rfl (ae (λ_=>?_) λc=>?_))
   ·refine ac (aj h rfl (bT (s:=s1) h hi.1 hi.2 (eE h s1 i.toNat (bV hi.2) rfl ?_)));exact au.aH (bV hi.2) h
   ·have c:¬i<((s1.len:Nat):Int):=cd c;omega
  ·simp at c;omega
theorem MI(i:Int)(hi:0≤i∧i.toNat<us.length)(hu:us[i.toNat]?=some true)(hr:(us.length:Int)≤rm)(hl:fr.length<4294967295):bx (UG (some ⟨a,0⟩) i) (ah a [aX s1,aX s2,aJ rm]^aQ s1 KB us^aQ s2 KI fr)
  (λr=>ex λs2':Sl=>br (r=0) (ah a [aX s1,aX s2',aJ rm]^aQ s1 KB (us.set i.toNat false)^aQ s2' KI (fr++[i]))):=
 bF λw0 S R h=>by
  refine ae (λc=>(by cases c)) λ_=>?_;refine aS h (λ_=>ah a [aX s1,aX s2,aJ rm]^aQ s1 KB us^aQ s2 KI fr) (λy:Bool=>y=false) (λ(y:Bool) w hy h=>?_) ?_
  ·rw[hy];refine ae (λc=>(by cases c)) λ_=>?_;refine aq (CP a s1 s2 us rm i hi) h λr w h=>?_;obtain⟨hr,h⟩:=h.aP;rw[hu]at hr;have hr:r=true:=by cases hr;rfl
   rw[hr];refine ae (λc=>(by cases c)) λ_=>?_;refine ac (aj h rfl (bT (s:=s1) h hi.1 hi.2 ?_));refine mE h s1 i.toNat 0 us[i.toNat] false (bV hi.2) rfl (by simp) (by simp) rfl λw h=>?_;refine ac (aj h rfl ?_);refine aD h λn w h=>?_;have h:=h.ct n KI [i] rfl (by simp);refine dF (s:=s2) (x:=⟨some ⟨n,0⟩,1,1⟩) h rfl (by simp;omega) λs' w hs' h=>?_;refine ac (be h rfl λw h=>?_);dsimp only[dE,over]at h;exact au.gI s' (au.aH rfl h.aK)
  ·refine ae (λc=>?_) λ_=>?_
   ·have c:i<0:=bZ c;omega
   ·refine ac (aj h rfl ⟨?_,h⟩);exact tT (by omega)
end
def sJ:Tr→List Int
 |.e=>[]
 |.n _ i _ _=>[(i:Int)]
def iA(p:Tr×List jO):List Int:=(gZ p.2).reverse++sJ p.1
def kN:Tr→List Int
 |.e=>[]
 |.n l i _ _=>(i:Int)::kN l
theorem oG(h:iN l (.n L i k R)):In l (i:Int)∧nth l (i:Int)=(k.1,k.2,L.rt,R.rt,max L.ht R.ht+1):=
 ⟨⟨by omega,by rw[eW];exact(ie.1 h.1).1⟩,gD h.1⟩
theorem yw:∀t:Tr,t.ht≤t.ino.length
 |.e=>by simp[Tr.ht,Tr.ino]
 |.n l i k r=>by
  have h1:=yw l;have h2:=yw r;simp only[Tr.ht,Tr.ino,eQ,fq];omega
def tV:Tr→Nat
 |.e=>0
 |.n l _ _ r=>tV l+tV r+1
theorem D1(k):∀(t:Tr) (c:List jO),(find k t c).2.length≤c.length+tV t
 |.e,c=>by simp[find,tV]
 |.n l i m r,c=>by
  have h1:=D1 k l (.L i m r::c);have h2:=D1 k r (.R l i m::c);unfold find;simp only[tV,fq]at*;split
  ·omega
  ·split
   ·simp only;omega
   ·omega
section
variable (t:Nat) (ap:bO) (s:Sl) (sz rm:Int) (l:List Nd) (T:Tr)
theorem AE(hT:iN l T)(hl:l.length≤4096):bx (L0 (some ⟨t,0⟩)) (ah t [.ptr ap,aX s,aJ (T.rt+1),aJ sz,aJ rm]^aQ s KN l) (λr=>br (r=T.rt) (ah t [.ptr ap,aX s,aJ (T.rt+1),aJ sz,aJ rm]^aQ s KN l)):=
 bF λw0 S R h=>by
  refine ae (λc=>(by cases c)) λ_=>ac (aj h rfl ?_);have e:i64.wrap (T.rt+1-1)=T.rt:=by
   have:-1≤T.rt∧T.rt≤4096:=by
    cases T with
    |e=>simp[Tr.rt]
    |n L i k R=>have:=(oG hT).1.2;simp only[Tr.rt,eW]at*;omega
   rw[Int.add_sub_cancel];exact fu
  dsimp only;rw[e];exact au.aH rfl h
theorem Jj(hT:iN l T)(hl:l.length≤4096)(hz:tV T≤4096)(k:Key):bx (P2 (some ⟨t,0⟩) k) (ah t [.ptr ap,aX s,aJ (T.rt+1),aJ sz,aJ rm]^aQ s KN l) (λr=>aQ r KI (iA (find k T []))^ah t [.ptr ap,aX s,aJ (T.rt+1),aJ sz,aJ rm]^aQ s KN l):=
 bF λw0 S R h=>by
  refine aD h λn1 w h=>?_;refine aI (AE t ap s sz rm l T hT hl) h λw h=>?_;have h:=h.nil KI;have h:=h.eD (s:=⟨none,0,0⟩) (K:=KI) (ys:=(gZ []).reverse) rfl;have h:au w0 S R w (aQ ⟨none,0,0⟩ KI (gZ []).reverse^ah n1 (Ks.mk [.int .u64,.int .u64] k)^ah t [.ptr ap,aX s,aJ (T.rt+1),aJ sz,aJ rm]^aQ s KN l):=h.aK;refine fV (λ(y:Sl×Int) (x:Tr×List jO)=>aQ y.1 KI (gZ x.2).reverse^ah n1 (Ks.mk [.int .u64,.int .u64] k)^ah t [.ptr ap,aX s,aJ (T.rt+1),aJ sz,aJ rm]^aQ s KN l) (λ(y:Sl×Int) (x:Tr×List jO)=>y.2=x.1.rt∧iN l x.1∧find k T []=find k x.1 x.2∧x.2.length+tV x.1≤4096) (λ_ (x:Tr×List jO)=>tV x.1) (T,[]) h ⟨rfl,hT,rfl,by simpa using hz⟩ ?_;rintro K (⟨q,i⟩:Sl×Int) ⟨sub,c⟩ w ⟨hi,hs,hf,hn⟩ h hK;dsimp only at hi hs hf hn h hK⊢;cases sub with
  |e=>
   rw[hi];refine ae (λc=>(by simp[Tr.rt]at c)) λ_=>?_;rw[hf];have h:=h.eD (s:=q) (K:=KI) (ys:=iA (find k .e c)) (by simp[iA,find,sJ]);exact h.aK
  |n L j m Rr=>
   obtain⟨hin,hnt⟩:=oG hs;have hi:i=(j:Int):=hi;rw[hi];refine ae (λ_=>?_) λc=>(by have c:((j:Int)!= -1)=false:=c;simp at c);refine aD h λn5 w h=>?_;have h:=h.ct n5 KI [(j:Int)] rfl (by simp);simp only[tV]at hn;refine dF (s:=q) (x:=⟨some ⟨n5,0⟩,1,1⟩) h rfl (by simp[gZ];omega) λs6 w _ h=>?_;refine aM h λw h=>ay (x:=k) h rfl (ac (aj h rfl (iY (s:=s) h hin (Xb h hin ?_))));have ek:jL l (j:Int)=m:=by rw[jL,hnt]
   have el:Tree.lt l (j:Int)=L.rt:=(by rw[Tree.lt,hnt]);have er:bX l (j:Int)=Rr.rt:=(by rw[bX,hnt]);rw[ek];refine aI (EB k m) h λw h=>?_;rw[find]at hf;refine ae (λc1=>?_) λc1=>?_
   ·have c1:lF k m=true:=M0.1 (bZ c1);rw[aF c1]at hf;refine ac (aj h rfl (iY (s:=s) h hin (Lh h hin ?_)));rw[el];have h:=h.eD (s:=s6) (K:=KI) (ys:=(gZ (.L j m Rr::c)).reverse) (by simp[gZ,jO.i]);exact hK (s6,L.rt) (L,.L j m Rr::c) w ⟨rfl,hs.2.1,hf,by simp;omega⟩ h.aK (by simp only[tV];omega)
   have c1:lF k m=false:=by
    have:=cd c1;rw[M0]at this;simpa using this
   rw[aw (by rw[c1];simp)]at hf;refine ae (λc2=>?_) λc2=>?_
   ·have c2:=(SK.1 (bZ c2)).2;rw[aw c2]at hf;refine ac (aj h rfl (iY (s:=s) h hin (Oa h hin ?_)));rw[er];have h:=h.eD (s:=s6) (K:=KI) (ys:=(gZ (.R L j m::c)).reverse) (by simp[gZ,jO.i]);exact hK (s6,Rr.rt) (Rr,.R L j m::c) w ⟨rfl,hs.2.2,hf,by simp;omega⟩ h.aK (by simp only[tV];omega)
   ·have c2:=cd c2;rw[SK]at c2;have c2:k=m:=by
     by_cases e:k=m
     ·exact e
     ·exact absurd ⟨c1,e⟩ c2
    rw[aF c2]at hf;rw[hf];have h:=h.eD (s:=s6) (K:=KI) (ys:=iA (.n L j m Rr,c)) (by simp[iA,sJ]);exact h.aK
theorem xj(hT:iN l T)(hz:tV T≤4096)(tp:Int):bx (L1 (some ⟨t,0⟩) T.rt) (ah t [.ptr ap,aX s,aJ tp,aJ sz,aJ rm]^aQ s KN l) (λr=>aQ r KI (kN T)^ah t [.ptr ap,aX s,aJ tp,aJ sz,aJ rm]^aQ s KN l):=
 bF λw0 S R h=>by
  have h:=h.nil KI;refine fV (λ(y:Int×Sl) (x:List Int×Tr)=>aQ y.2 KI x.1^ah t [.ptr ap,aX s,aJ tp,aJ sz,aJ rm]^aQ s KN l) (λ(y:Int×Sl) (x:List Int×Tr)=>y.1=x.2.rt∧iN l x.2∧kN T=x.1++kN x.2∧x.1.length+tV x.2≤4096) (λ_ (x:List Int×Tr)=>tV x.2) ([],T) h ⟨rfl,hT,rfl,by simpa using hz⟩ ?_;rintro K (⟨i,q⟩:Int×Sl) ⟨xs,sub⟩ w ⟨hi,hs,hf,hn⟩ h hK;dsimp only at hi hs hf hn h hK⊢;cases sub with
  |e=>
   rw[hi];refine ae (λc=>(by simp[Tr.rt]at c)) λ_=>?_;rw[hf,kN,qw];exact h
  |n L j m Rr=>
   obtain⟨hin,hnt⟩:=oG hs;have hi:i=(j:Int):=hi;rw[hi];refine ae (λ_=>?_) λc=>(by have c:((j:Int)!= -1)=false:=c;simp at c);refine aD h λn5 w h=>?_;have h:=h.ct n5 KI [(j:Int)] rfl (by simp);simp only[tV]at hn;refine dF (s:=q) (x:=⟨some ⟨n5,0⟩,1,1⟩) h rfl (by simp;omega) λs6 w _ h=>?_;have el:Tree.lt l (j:Int)=L.rt:=by rw[Tree.lt,hnt]
   refine ac (aj h rfl (iY (s:=s) h hin (Lh h hin ?_)));rw[el];exact hK (L.rt,s6) (xs++[(j:Int)],L) w ⟨rfl,hs.2.1,by rw[hf,kN];simp,by simp;omega⟩ h.aK (by simp only[tV];omega)
theorem BI(hT:iN l T)(hs:yP T.ino)(hz:tV T≤4096)(k:Key)(q:Sl)(tp:Int):bx (P3 (some ⟨t,0⟩) q k) (aQ q KI (iA (find k T []))^ah t [.ptr ap,aX s,aJ tp,aJ sz,aJ rm]^aQ s KN l)
  (λr=>br (r=(find k T []).1.rt) (aQ q KI (iA (find k T []))^ah t [.ptr ap,aX s,aJ tp,aJ sz,aJ rm]^aQ s KN l)):=
 bF λw0 S R h=>by
  have hlen:=(h.rd (s:=q)).2;obtain⟨g1,g2,g3⟩:=vv k T [] hs (by simp[lk]) (by simp[rk]);have hfill:=oa k T [];have hwl:=D1 k T [];generalize find k T []=p at*
  obtain⟨sub,c⟩:=p;dsimp only at g1 g2 g3 hfill hwl;have hR:iN l (fill sub c):=by rw[hfill];exact hT
  obtain⟨r1,r2⟩:=kb hR;have hpl:(iA (sub,c)).length≤4097:=by
   have:(sJ sub).length≤1:=(by cases sub<;>simp[sJ]);simp only[iA,eQ,List.length_reverse,gZ,fy];simp only[iE]at hwl;omega
  refine aD h λn1 w h=>?_;have h:au w0 S R w (ah n1 (Ks.mk [.int .u64,.int .u64] k)^aQ q KI (iA (sub,c))^ah t [.ptr ap,aX s,aJ tp,aJ sz,aJ rm]^aQ s KN l):=h.aK;refine aS h (λ_=>ah n1 (Ks.mk [.int .u64,.int .u64] k)^aQ q KI (iA (sub,c))^ah t [.ptr ap,aX s,aJ tp,aJ sz,aJ rm]^aQ s KN l) (λy:Bool=>y=nE sub) (λ(y:Bool) w hy h=>?_) ?_
  ·rw[hy];refine ae (λc1=>?_) λc1=>?_
   ·rcases g3 with g3|⟨L,i,r,g3⟩
    ·rw[g3]at c1;cases c1
    have e:i64.wrap (((q.len:Nat):Int)-1)=((gZ c).length:Int):=(by rw[hlen,fu,iA,g3];simp[sJ]);have hat:(iA (sub,c))[(((gZ c).length:Nat):Int).toNat]?=some (i:Int):=(by rw[g3,iA];simp[sJ]);rw[e];refine bT (s:=q) h (by omega) (by rw[iA,g3];simp[sJ]) (eE h q (((gZ c).length:Nat):Int).toNat hat rfl ?_);exact au.aH (by rw[g3];rfl) h.aK
   ·have c1:sub=.e:=by
     cases sub with
     |e=>rfl
     |n L i m r=>cases c1
    exact au.aH (by rw[c1];rfl) h.aK
  ·refine aM h λw h=>ae (λc1=>?_) λc1=>?_
   ·have c1:((q.len:Nat):Int)>0:=bZ c1;have hne:(iA (sub,c)).length>0:=(by omega);have e:i64.wrap (((q.len:Nat):Int)-1)=(((iA (sub,c)).length-1:Nat):Int):=(by rw[hlen,fu];omega);refine ay (x:=k) h rfl (ac ?_);rw[e];have hlast:∃j:Nat,(iA (sub,c))[((((iA (sub,c)).length-1:Nat):Int)).toNat]?=some (j:Int)∧In l (j:Int)∧decide (jL l (j:Int)=k)=nE sub:=by
     rw[eW];rcases g3 with g3|⟨L,i,r,g3⟩
     ·rw[g3]at hne⊢r2 hfill hR;cases c with
      |nil=>simp[iA,sJ,gZ]at hne
      |cons f c=>
       have hp:iA (.e,f::c)=(gZ c).reverse++[(f.i:Int)]:=(by simp[iA,gZ,sJ]);rw[hp];refine⟨f.i,by simp,?_⟩;cases f with
       |L i m r=>
        obtain⟨⟨hx,h1⟩,_⟩:=r2;refine⟨⟨by simp[jO.i],by simp only[jO.i,eW];exact(ie.1 h1).1⟩,?_⟩;have e1:jL l (i:Int)=m:=by rw[jL,gD h1]
        have e2:jL l ((jO.L i m r).i:Int)=m:=e1;rw[e2];have:=g2 m (by simp[rk]);have hne:m≠k:=λe=>by rw[e,sZ]at this;cases this
        simp[hne,nE]
       |R L' i m=>
        obtain⟨⟨hx,h1⟩,_⟩:=r2;refine⟨⟨by simp[jO.i],by simp only[jO.i,eW];exact(ie.1 h1).1⟩,?_⟩;have e1:jL l (i:Int)=m:=by rw[jL,gD h1]
        have e2:jL l ((jO.R L' i m).i:Int)=m:=e1;rw[e2];have:=g1 m (by simp[lk]);have hne:m≠k:=λe=>by rw[e,sZ]at this;cases this
        simp[hne,nE]
     ·rw[g3]at r1⊢;obtain⟨hin,hnt⟩:=oG r1;have hp:iA (.n L i k r,c)=(gZ c).reverse++[(i:Int)]:=by simp[iA,sJ]
      rw[hp];refine⟨i,by simp,hin,?_⟩;have e1:jL l (i:Int)=k:=by rw[jL,hnt]
      rw[e1];simp[nE]
    obtain⟨j,hj1,hj2,hj3⟩:=hlast;refine bT (s:=q) h (by omega) (by rw[eW];omega) (aj h rfl (eE h q _ hj1 rfl (iY (s:=s) h hj2 (Xb h hj2 ?_))));refine⟨?_,h⟩;rw[←hj3,jH];simp only[ej,sy,j_];exact⟨λ⟨a,b⟩=>IB a b,λe=>by rw[e];exact⟨rfl,rfl⟩⟩
   ·have c1:¬((q.len:Nat):Int)>0:=cd c1;refine⟨?_,h⟩;have:(iA (sub,c)).length=0:=(by omega);have hsub:sub=.e:=by
     cases sub with
     |e=>rfl
     |n L i m r=>simp[iA,sJ]at this
    rw[hsub];rfl
end
end Ei

namespace jE
open _root_.Go.X.Tree Bz Ei
open Tr (e)
theorem HY:∀t:Tr,tV t=t.cJ.length
 |.e=>rfl
 |.n l i k r=>by simp[tV,Tr.cJ,HY l,HY r];omega
structure nr(l:List Nd)(T:Tr)(us:List Bool)(fr:List Nat)(ks:List Key)(rm:Int):Prop where
 kR:iN l T
 pN:T.pN
 ino:T.ino=ks
 wH:yP ks
 lk:Lk l 5000
 ul:us.length=l.length
 nd:(T.cJ++fr).Nodup
 all:∀i,i<l.length→i∈T.cJ∨i∈fr
 lt:∀i∈fr,i<l.length
 on:∀i∈T.cJ,us[i]?=some true
 rr:0≤rm∧rm≤4096
 room:(l.length:Int)≤rm
theorem Np:∀(m:Nat) (l:List Nat),l.Nodup→(∀x∈l,x<m)→l.length≤m:=λm l hd h=>by
 have:=qj m (l.map λx:Nat=>(x:Int)) (by
  rw[NU,List.pairwise_map];exact(NU.1 hd).imp λ{a b} hab e=>hab (by omega)) (λx hx=>by
  obtain⟨y,hy,rfl⟩:=ma.1 hx;have:=h y hy;omega)
 simpa using this
theorem nr.Iy{rm:Int}(h:nr l T us fr ks rm):T.cJ.length+fr.length≤l.length:=by
 have:=Np l.length (T.cJ++fr) h.nd (λx hx=>by
  rcases dX.1 hx with hx|hx
  ·exact h.kR.lt x hx
  ·exact h.lt x hx)
 rwa[eQ]at this
theorem nr.M1{rm:Int}(h:nr l T us fr ks rm):ks.length=T.cJ.length:=by rw[←h.ino,Tr.CY]
theorem nr.small{rm:Int}(h:nr l T us fr ks rm):l.length≤4096∧tV T≤4096∧fr.length≤4096∧ks.length≤4096:=by
 have h1:=h.Iy;have h2:=h.room;have h3:=h.rr;have h4:=HY T;have h5:=h.M1;omega
abbrev St:=List Nd×Tr×List Bool×List Nat×Nat×Sl×Sl×Sl
def tree(rm:Int)(t:Nat)(ks:List Key):SP:=yj (λx:St=>nr x.1 x.2.1 x.2.2.1 x.2.2.2.1 ks rm) (λx=>ah t [.ptr (some ⟨x.2.2.2.2.1,0⟩),aX x.2.2.2.2.2.1,aJ (x.2.1.rt+1),aJ ks.length,aJ rm]^aQ x.2.2.2.2.2.1 KN x.1^ah x.2.2.2.2.1 [aX x.2.2.2.2.2.2.1,aX x.2.2.2.2.2.2.2,aJ rm]^aQ x.2.2.2.2.2.2.1 KB x.2.2.1^aQ x.2.2.2.2.2.2.2 KI (x.2.2.2.1.map λx:Nat=>(x:Int)))
instance(rm:Int)(t:Nat)(ks:List Key):nt (tree rm t ks):=by unfold tree;infer_instance
section
variable {w0 w:World} {S0 R0:Nat→Prop} {F G:SP} {ks:List Key}
theorem _root_.Go.X.au.tree(h:au w0 S0 R0 w F)(rm:Int)(t)[tk:ou (jE.tree rm) t F ks G]:∃(l:List Nd) (T:Tr) (us:List Bool) (fr:List Nat) (a:Nat) (s s1 s2:Sl),nr l T us fr ks rm∧
  au w0 S0 R0 w (ah t [.ptr (some ⟨a,0⟩),aX s,aJ (T.rt+1),aJ ks.length,aJ rm]^aQ s KN l^ah a [aX s1,aX s2,aJ rm]^aQ s1 KB us^aQ s2 KI (fr.map λx:Nat=>(x:Int))^G):=by
 obtain⟨⟨l,T,us,fr,a,s,s1,s2⟩,hg,h⟩:=au.vQ (h.le tk.le);exact⟨l,T,us,fr,a,s,s1,s2,hg,h.aK⟩
theorem _root_.Go.X.au.qJ{rm:Int}(h:au w0 S0 R0 w F)(t l T us fr a s s1 s2)(hg:nr l T us fr ks rm)[tk:Take (ah t [.ptr (some ⟨a,0⟩),aX s,aJ (T.rt+1),aJ ks.length,aJ rm]^aQ s KN l^ah a [aX s1,aX s2,aJ rm]^aQ s1 KB us^aQ s2 KI (fr.map λx:Nat=>(x:Int))) F G]:
  au w0 S0 R0 w (jE.tree rm t ks^G):=
 au.r_ (φ:=λx:St=>nr x.1 x.2.1 x.2.2.1 x.2.2.2.1 ks rm) (f:=λx=>ah t [.ptr (some ⟨x.2.2.2.2.1,0⟩),aX x.2.2.2.2.2.1,aJ (x.2.1.rt+1),aJ ks.length,aJ rm]^aQ x.2.2.2.2.2.1 KN x.1^ah x.2.2.2.2.1 [aX x.2.2.2.2.2.2.1,aX x.2.2.2.2.2.2.2,aJ rm]^aQ x.2.2.2.2.2.2.1 KB x.2.2.1^aQ x.2.2.2.2.2.2.2 KI (x.2.2.2.1.map λx:Nat=>(x:Int))) h (l,T,us,fr,a,s,s1,s2) hg
end
def room(n:Int):Int:=min (max n 0) 4096
theorem HI(n:Int):0≤room n∧room n≤4096:=by unfold room;omega
theorem X8(n:Int):nr [] .e [] [] [] (room n) where
 kR:=trivial
 pN:=trivial
 ino:=rfl
 wH:=List.Pairwise.nil
 lk:=λi hi=>by have:=hi.2;simp at this
 ul:=rfl
 nd:=by simp[Tr.cJ]
 all:=λi hi=>by simp at hi
 lt:=λi hi=>by simp at hi
 on:=λi hi=>by simp[Tr.cJ]at hi
 rr:=HI n
 room:=by have:=HI n;simp;omega
theorem ku(n:Int):bx (ZU n) bg (λr=>ex λt:Nat=>br (r=some ⟨t,0⟩) (tree (room n) t [])):=
 bF λw0 S R h=>by
  have e:(if(4096:Int)<(if(0:Int)>n then(0:Int)else n)then(4096:Int)else(if(0:Int)>n then(0:Int)else n))=room n:=by unfold room;(repeat' split)<;>omega
  rw[e];refine aq (Ki (room n)) h λr w h=>?_;obtain⟨a,h⟩:=h.lS;obtain⟨hr,h⟩:=h.aP;rw[hr];have e2:min (max (room n) 0) 4096=room n:=by have:=HI n;omega
  rw[e2]at h;refine aD h λt w h=>?_;have h:au w0 S R _ (aQ ⟨none,0,0⟩ KI (([]:List Nat).map λx:Nat=>(x:Int))^_):=h.nil KI;have h:=(h.nil KB).nil KN;have h:=h.eP (b:=t) (L':=[.ptr (some ⟨a,0⟩),aX ⟨none,0,0⟩,aJ (Tr.e.rt+1),aJ (([]:List Key).length:Int),aJ (room n)]) rfl;have h:au w0 S R _ (ah t [.ptr (some ⟨a,0⟩),aX ⟨none,0,0⟩,aJ (Tr.e.rt+1),aJ (([]:List Key).length:Int),aJ (room n)]^aQ ⟨none,0,0⟩ KN []^ah a [aX ⟨none,0,0⟩,aX ⟨none,0,0⟩,aJ (room n)]^aQ ⟨none,0,0⟩ KB []^aQ ⟨none,0,0⟩ KI (([]:List Nat).map λx:Nat=>(x:Int))):=h.aK;exact au.gI t (au.aH rfl (h.qJ t [] .e [] [] a ⟨none,0,0⟩ ⟨none,0,0⟩ ⟨none,0,0⟩ (X8 n)).bq)
theorem Ir{rm:Int}(hg:nr l T us fr ks rm)(k):
  (k∉ks∧(∃c,find k T []=(.e,c)∧ks=lk c++rk c∧(∀m∈lk c,lF m k=true)∧∀m∈rk c,lF k m=true))∨
  (k∈ks∧∃L i R c,find k T []=(.n L i k R,c)∧fill (.n L i k R) c=T):=by
 have hs:yP T.ino:=by rw[hg.ino];exact hg.wH
 obtain⟨g1,g2,g3⟩:=vv k T [] hs (by simp[lk]) (by simp[rk]);have hf:=oa k T [];have hi:=hg.ino;generalize find k T []=p at*
 obtain⟨sub,c⟩:=p;dsimp only at g1 g2 g3 hf;have hf:fill sub c=T:=hf;rcases g3 with g3|⟨L,i,R,g3⟩
 ·left;subst g3;have eo:ks=lk c++rk c:=by rw[←hi,←hf,ox];simp[Tr.ino]
  refine⟨λhk=>?_,c,rfl,eo,g1,g2⟩;rw[eo,dX]at hk;rcases hk with hk|hk
  ·have:=g1 k hk;rw[sZ]at this;cases this
  ·have:=g2 k hk;rw[sZ]at this;cases this
 ·right;subst g3;refine⟨?_,L,i,R,c,rfl,hf⟩;rw[←hi,←hf,ox];simp[Tr.ino]
def dz:List jO→Int
 |[]=>-1
 |.L i _ _::_=>i
 |.R _ _ _::c=>dz c
end jE

namespace lM
open _root_.Go.X.Tree Bz Ei jE
def lZ(ks:List Key)(k:Key):List Key:=ks.takeWhile (λm=>lF m k)++k::ks.dropWhile (λm=>lF m k)
def MR(rm:Int)(ks:List Key)(k:Key):Int×List Key:=if k∈ks then(6,ks)else if(ks.length:Int)≥rm then(5,ks)else(0,lZ ks k)
def Gw(ks:List Key)(k:Key):Int×List Key:=if k∈ks then(0,ks.erase k)else(7,ks)
theorem C9(h1:∀m∈a,lF m k=true)(h2:∀m∈b,lF k m=true):lZ (a++b) k=a++k::b:=by
 unfold lZ
 induction a with
 |nil=>
  cases b with
  |nil=>rfl
  |cons x b=>
   have hx:lF x k=false:=EV (h2 x (by simp));simp[hx]
 |cons x a ih=>
  have hx:lF x k=true:=h1 x (by simp);have:=ih λm hm=>h1 m (by simp[hm]);simp only[nK,Ap,Dm,hx,iF]at this⊢;rw[this]
theorem J0{a b:List Key}{k:Key}(h:k∉a):(a++k::b).erase k=a++b:=by rw[List.erase_append_right _ h,List.erase_cons_head]
theorem SM{l l':List Nd}{T:Tr}{B:Int}(h:iN l' T)(hl:l'.length=l.length)(hB:(T.ino.length:Int)≤B)(hk:Lk l B)(hf:∀p,p∉T.cJ→l'[p]?=l[p]?):Lk l' B:=by
 have sub:∀t:Tr,iN l' t→(t.ino.length:Int)≤B→∀i∈t.cJ,(Tree.lt l' (i:Int)=-1∨In l' (Tree.lt l' (i:Int)))∧(bX l' (i:Int)=-1∨In l' (bX l' (i:Int)))∧0≤hh l' (i:Int)∧hh l' (i:Int)≤B:=by
  intro t
  induction t with
  |e=>intro _ _ i hi;simp[Tr.cJ]at hi
  |n L j k R ihL ihR=>
   intro ht hb i hi;simp only[Tr.ino,eQ,fq]at hb;simp only[Tr.cJ,dX,dY]at hi;have rin:∀t:Tr,iN l' t→t.rt=-1∨In l' t.rt:=λt ht=>by
    cases t with
    |e=>exact .inl rfl
    |n L i k R=>exact .inr (oG ht).1
   rcases hi with hi|rfl|hi
   ·exact ihL ht.2.1 (by omega) i hi
   ·obtain⟨h1,h2⟩:=oG ht;have s1:=yw L;have s2:=yw R;have n1:=L.xY;simp only[Tree.lt,bX,hh,h2];exact⟨rin L ht.2.1,rin R ht.2.2,by omega,by omega⟩
   ·exact ihR ht.2.2 (by omega) i hi
 intro i hi;by_cases hm:i.toNat∈T.cJ
 ·have:=sub T h hB i.toNat hm;have e:((i.toNat:Nat):Int)=i:=Aa hi.1;rwa[e]at this
 ·have hi2:In l i:=hi.len hl.symm;have e:nth l' i=nth l i:=by
   have h1:=oB hi;have h2:=oB hi2;rw[hf _ hm,h2]at h1;exact(kG h1).symm
  have:=hk i hi2;simp only[Tree.lt,bX,hh,e];exact⟨this.1.imp id (·.len hl),this.2.1.imp id (·.len hl),this.2.2⟩
theorem D0:∀{c:List jO} {hole:Int},A9 l hole c→∀x∈gZ c,In l x
 |[],_,_,x,hx=>by simp[gZ]at hx
 |.L i k r::c,hole,⟨⟨h0,h1⟩,_,h3⟩,x,hx=>by
  simp only[gZ,ka,dY]at hx;rcases hx with rfl|hx
  ·exact⟨by simp[jO.i],by simp only[jO.i,eW];exact(ie.1 h1).1⟩
  ·exact D0 h3 x hx
 |.R q i k::c,hole,⟨⟨h0,h1⟩,_,h3⟩,x,hx=>by
  simp only[gZ,ka,dY]at hx;rcases hx with rfl|hx
  ·exact⟨by simp[jO.i],by simp only[jO.i,eW];exact(ie.1 h1).1⟩
  ·exact D0 h3 x hx
theorem CN(c t):c.length+tV t≤tV (fill t c):=by
 induction c generalizing t with
 |nil=>simp[fill]
 |cons f c ih=>
  have:=ih (f.put t);rw[fill];cases f<;>simp only[jO.put,tV,fq]at*<;>omega
theorem MO{l l1:List Nd}{T:Tr}{us us1:List Bool}{fr fr1:List Nat}{ks:List Key}{rm:Int}(hg:nr l T us fr ks rm){k:Key}{c:List jO}{i:Nat}
  (hf:find k T []=(.e,c)) (hi:i∉T.cJ) (h1:l1[i]?=some (k.1,k.2,-1,-1,1)) (hr:∀j∈T.cJ,l1[j]?=l[j]?) (hlk:Lk l1 5000) (hul:us1.length=l1.length)
  (hnd:(T.cJ++fr).Nodup→(i::T.cJ++fr1).Nodup) (hall:∀j,j<l1.length→j=i∨j∈T.cJ∨j∈fr1) (hlt:∀j∈fr1,j<l1.length) (hon:∀j,j=i∨j∈T.cJ→us1[j]?=some true) (hroom:(l1.length:Int)≤rm):
  ∃T',(iS l1 (-1) i (gZ c)).2=T'.rt∧nr (iS l1 (-1) i (gZ c)).1 T' us1 fr1 (lZ ks k) rm:=by
 have hs:yP T.ino:=by rw[hg.ino];exact hg.wH
 have hnd0:=hg.nd;have hdT:T.cJ.Nodup:=(jZ.1 hnd0).1;obtain⟨T',mv,eo,ei,g1,g2⟩:=Q3 hg.kR hf hg.pN hdT hs hi h1 hr;have eks:ks=lk c++rk c:=by rw[←hg.ino,eo]
 have ep:lZ ks k=lk c++k::rk c:=by rw[eks];exact C9 g1 g2
 have hino:T'.ino=lZ ks k:=by rw[mv.ino,ep];simp[Tr.ino]
 have hids:T'.cJ=lc c++i::rc c:=by rw[mv.cJ];simp[Tr.cJ]
 have hlen:=BN (gZ c) l1 (-1) i;have hmem:∀j,j∈T'.cJ↔j=i∨j∈T.cJ:=λj=>by
  rw[hids,ei];simp only[dX,dY];exact⟨λh=>h.elim (λh=>.inr (.inl h)) λh=>h.elim .inl λh=>.inr (.inr h),λh=>h.elim (λh=>.inr (.inl h)) λh=>h.elim .inl λh=>.inr (.inr h)⟩
 have hp:(i::T.cJ++fr1).Perm (T'.cJ++fr1):=by
  rw[hids,ei];refine List.Perm.append_right _ ?_;exact List.perm_middle.symm
 refine⟨T',mv.root,⟨mv.kR,mv.pN,hino,?_,?_,by rw[hul,hlen],?_,λj hj=>?_,λj hj=>by rw[hlen];exact hlt j hj,λj hj=>hon j ((hmem j).1 hj),hg.rr,by rw[hlen];exact hroom⟩⟩
 ·rw[ep];have:=hg.wH;rw[eks]at this;exact this.put g1 g2
 ·have hsz:(T'.ino.length:Int)≤5000:=by
   rw[hino,ep];have:=hg.small.2.2.2;rw[eks]at this;simp at this⊢;omega
  exact SM mv.kR hlen hsz hlk λp hp=>mv.fr p (by rw[←mv.cJ];exact hp)
 ·exact hp.nodup_iff.1 (hnd hnd0)
 ·rw[hlen]at hj;rcases hall j hj with h|h|h
  ·exact .inl ((hmem j).2 (.inl h))
  ·exact .inl ((hmem j).2 (.inr h))
  ·exact .inr h
theorem GL(t)(rm:Int)(ks k):bx (Z_ (some ⟨t,0⟩) k) (tree rm t ks) (λr=>br (r=(MR rm ks k).1) (tree rm t (MR rm ks k).2)):=
  bF λw0 S R h=>by
    obtain⟨l,T,us,fr,a,s,s1,s2,hg,h⟩:=h.tree rm t;obtain⟨b1,b2,b3,b4⟩:=hg.small;have hs:yP T.ino:=by rw[hg.ino];exact hg.wH
    refine aD h λn1 w h=>ae (λc=>(by cases c)) λ_=>ay (x:=k) h rfl ?_;refine aq (Jj t (some ⟨a,0⟩) s ks.length rm l T hg.kR b1 b2 k) h λq w h=>?_;refine ay (x:=k) h rfl ?_;refine aI (BI t (some ⟨a,0⟩) s ks.length rm l T hg.kR hs b2 k q (T.rt+1)) h λw h=>?_;unfold MR;rcases Ir hg k with⟨hk,c,hf,eks,g1,g2⟩|⟨hk,L,i,Rr,c,hf,_⟩
    · rw[aw hk]
      rw[hf]at h⊢;refine ae (λc=>(by simp[Tr.rt]at c)) λ_=>?_;refine aM h λw h=>ac (ac (aj h rfl (aj h rfl ?_)));refine ae (λc1=>?_) λc1=>?_
      · rw[aF (bZ c1)]
        exact au.aH rfl (h.qJ t l T us fr a s s1 s2 hg).bq
      have c1:¬(ks.length:Int)≥rm:=cd c1;rw[aw c1];refine ac (aj h rfl ?_);have hep:iA ((.e,c):Tr×List jO)=(gZ c).reverse:=(by simp[iA,sJ]);have hfill:=oa k T [];rw[hf]at hfill;have hfill:fill .e c=T:=hfill;have hcl:c.length≤4096:=(by have:=CN c .e;rw[hfill]at this;omega);have hwc:∀l1:List Nd,l1.length≥l.length→∀x∈gZ c,In l1 x:=λl1 hl x hx=>by
        have hR:iN l (fill .e c):=(by rw[hfill];exact hg.kR);have:=D0 (kb hR).2 x hx;exact⟨this.1,Ac this.2 hl⟩
      have aK:∀(w:World) (l1:List Nd) (us1:List Bool) (fr1:List Nat) (i:Nat) (s s1 s2:Sl) (j:Nd),
          i∉T.cJ→l1[i]? =some j→(∀p∈T.cJ,p<l.length→l1[p]? =l[p]?)→Lk (l1.set i (k.1,k.2,-1,-1,1)) 5000→us1.length=l1.length→l1.length≥l.length→l1.length≤4096→
          ((T.cJ++fr).Nodup→(i::T.cJ++fr1).Nodup)→(∀j,j<l1.length→j=i∨j∈T.cJ∨j∈fr1)→(∀j∈fr1,j<l1.length)→(∀j,j=i∨j∈T.cJ→us1[j]? =some true)→((l1.length:Int)≤rm)→
          au w0 S R w (ah t [.ptr (some ⟨a,0⟩),aX s,aJ (T.rt+1),aJ ks.length,aJ rm]^aQ s KN l1^ah a [aX s1,aX s2,aJ rm]^aQ s1 KB us1^aQ s2 KI (fr1.map λx:Nat=>(x:Int))^aQ q KI (gZ c).reverse^ah n1 (Ks.mk [.int .u64,.int .u64] k)^bg)→
          (bQ<|
  ld [.int .u64,.int .u64] ⟨n1,0⟩ λ(x22:Int×Int)=>
  az (some ⟨t,0⟩) λq23=>
  ld [.sl] ⟨q23.b,q23.o+1⟩ λ(x24:Sl)=>
  idx x24 (i:Int) 5 λq25=>
  st q25 [aC x22.1,aC x22.2,aJ (-1:Int),aJ (-1:Int),aJ (1:Int)]<|
  az (some ⟨t,0⟩) λq26=>
  ld [.int .i64] ⟨q26.b,q26.o+3⟩ λ(x27:Int)=>
  az (some ⟨t,0⟩) λq28=>
  st ⟨q28.b,q28.o+3⟩ [aJ (i64.wrap (x27+(1:Int)))]<|
  call Tryz.prog ua [.lf (.ptr (some ⟨t,0⟩)),.lf (.sl q),.lf (.int .i64 (-1:Int)),.lf (.int .i64 (i:Int))] [] λ(r29:Unit)=>
  λw=>au w0 S R w (br ((0:Int)=0) (tree rm t (lZ ks k)))) w:=by
        intro w l1 us1 fr1 i s s1 s2 j hi hj hr hlk hul hge h4096 hnd hall hlt hon hroom h;refine aM h λw h=>ay (x:=k) h rfl (ac (aj h rfl ?_));have hin:In l1 (i:Int):=⟨by omega,by rw[eW];exact(ie.1 hj).1⟩;refine iY (s:=s) h hin ?_;refine mE h s i 0 j (k.1,k.2,-1,-1,1) hj (by rw[eW];rfl) (by simp) (by simp) rfl λw h=>?_;refine ac (aj h rfl (ac (be h rfl λw h=>?_)));dsimp only[dE,over]at h;have ew:i64.wrap ((ks.length:Int)+1)=((lZ ks k).length:Int):=by rw[fu,eks,C9 g1 g2];simp;omega
        rw[ew]at h;have hl1:(l1.set i (k.1,k.2,-1,-1,1)).length=l1.length:=rb;have hin1:In (l1.set i (k.1,k.2,-1,-1,1)) (i:Int):=hin.len hl1;have h:=h.eD (s:=s) (K:=KN) (ys:=l1.set i (k.1,k.2,-1,-1,1)) rfl;refine bR (A:=ah t [.ptr (some ⟨a,0⟩),aX s,aJ (T.rt+1),aJ (lZ ks k).length,aJ rm]^aQ s KN (l1.set i (k.1,k.2,-1,-1,1))) (Q:=aZ q KI (gZ c).reverse) (MQ t (some ⟨a,0⟩) s (T.rt+1) (lZ ks k).length rm (l1.set i (k.1,k.2,-1,-1,1)) q (gZ c).reverse (-1) i (λx hx=>hwc _ (by rw[hl1];exact hge) x (List.mem_reverse.1 hx)) hin1 5000 hlk (by omega) (by simp[gZ];omega) (by rw[hl1];omega)) h λ_ w h=>?_;rw[List.reverse_reverse]at h;obtain⟨T',hroot,hgood⟩:=MO (l1:=l1.set i (k.1,k.2,-1,-1,1)) (us1:=us1) (fr1:=fr1) hg hf hi (by rw[sB (ie.1 hj).1]) (λp hp=>by
          rw[ya (show i≠p from λe=>hi (e▸hp))];exact hr p hp (hg.kR.lt p hp)) hlk (by rw[hl1];exact hul) hnd (by rw[hl1];exact hall) (by rw[hl1];exact hlt) hon (by rw[hl1];exact hroom)
        rw[hroot]at h;exact au.aH rfl (h.qJ t _ T' us1 fr1 a s s1 s2 hgood).bq
      have hidl:=hg.Iy;have hkl:=hg.M1;have hrr:=hg.rr;rw[hep]at h;by_cases hfr:fr=[]
      ·
        have hlen:T.cJ.length=l.length:=by
          have h2:l.length≤T.cJ.length:=by
            have:(List.range l.length).length≤T.cJ.length:=by
              refine List.Nodup.length_le_of_subset List.nodup_range λx hx=>?_;rcases hg.all x (List.mem_range.1 hx)with h|h
              · exact h
              · rw[hfr]at h;cases h
            simpa using this
          omega
        have hus:=hg.ul;rw[hfr]at h;have h:=h.eD (s:=s2) (K:=KI) (ys:=[]) rfl;refine aq (QX a s1 s2 us rm (by omega) hg.rr.2) h λr w h=>?_;obtain⟨s1',h⟩:=h.lS;obtain⟨hr,h⟩:=h.aP;rw[hr];refine ae (λc=>(by simp at c)) λ_=>?_;have h:au w0 S R w (aQ s KN l^ah t [.ptr (some ⟨a,0⟩),aX s,aJ (T.rt+1),aJ ks.length,aJ rm]^ah a [aX s1',aX s2,aJ rm]^aQ s1' KB (us++[true])^aQ s2 KI []^aQ q KI (gZ c).reverse^ah n1 (Ks.mk [.int .u64,.int .u64] k)^bg):=h.aK;have hsl:=(h.rd (s:=s)).2;refine⟨_,λ_ _ h=>h,?_⟩;dsimp only;refine ac (aj h rfl (ae (λ_=>?_) λc=>?_))
        · refine ac (aj h rfl (aD h λn w h=>?_))
          have h:=h.ct n KN [((0,0,0,0,0):Nd)] rfl (by simp);refine dF (s:=s) (x:=⟨some ⟨n,0⟩,1,1⟩) h rfl (by simp;omega) λs' w hs' h=>?_;refine ac (be h rfl λw h=>?_);dsimp only[dE,over]at h;have eu:(us.length:Int)=((l.length:Nat):Int):=(by rw[hus]);rw[eu];have h:=h.eD (s:=s2) (K:=KI) (ys:=(([]:List Nat).map λx:Nat=>(x:Int))) rfl;have hlk1:Lk ((l++[((0,0,0,0,0):Nd)]).set l.length (k.1,k.2,-1,-1,1)) 5000:=by
            have e:(l++[((0,0,0,0,0):Nd)]).set l.length (k.1,k.2,-1,-1,1)=l++[(k.1,k.2,-1,-1,1)]:=(by simp);rw[e];intro i hi;by_cases hil:i.toNat<l.length
            · have e2:nth (l++[((k.1,k.2,-1,-1,1):Nd)]) i=nth l i:=by simp[nth,lB,pk hil]
              have hi2:In l i:=⟨hi.1,hil⟩;have:=hg.lk i hi2;have up:∀j,In l j→In (l++[((k.1,k.2,-1,-1,1):Nd)]) j:=λj hj=>⟨hj.1,by have:=hj.2;simp;omega⟩;simp only[Tree.lt,bX,hh,e2];exact⟨this.1.imp id (up _),this.2.1.imp id (up _),this.2.2⟩
            · have e3:i.toNat=l.length:=by have:=hi.2;simp at this;omega
              have e2:nth (l++[((k.1,k.2,-1,-1,1):Nd)]) i=(k.1,k.2,-1,-1,1):=(by simp[nth,lB,e3]);simp only[Tree.lt,bX,hh,e2];exact⟨.inl trivial,.inl trivial,by decide,by decide⟩
          refine aK w (l++[(0,0,0,0,0)]) (us++[true]) [] l.length s' s1' s2 (0,0,0,0,0) (λhx=>by have:=hg.kR.lt _ hx;omega) (by simp) (λp hp hpl=>by rw[pk hpl]) hlk1 (by simp[hus]) (by simp) (by simp;omega) (λhn=>?_) (λj hj=>?_) (λj hj=>(by cases hj)) (λj hj=>?_) (by simp;omega) h.aK
          · rw[hfr,qw]at hn
            rw[qw,lD];exact⟨λhx=>by have:=hg.kR.lt _ hx;omega,hn⟩
          · simp at hj
            by_cases hjl:j=l.length
            · exact .inl hjl
            · rcases hg.all j (by omega)with h|h
              · exact .inr (.inl h)
              · rw[hfr]at h;cases h
          · rcases hj with rfl|hj
            · simp[←hus]
            · have:=hg.kR.lt _ hj
              rw[pk (by omega)];exact hg.on j hj
        · have c:((us.length:Int)==((s.len:Nat):Int))=false:=c
          rw[Hd]at c;exact absurd (by rw[hsl,hus]) c
      ·
        obtain⟨f,i,hfi⟩:∃f i,fr=f++[i]:=⟨fr.dropLast,fr.getLast hfr,(NR hfr).symm⟩;have hus:=hg.ul;have hil:=hg.lt i (by rw[hfi];simp);have hnd:=hg.nd;have hi:i∉T.cJ:=λhx=>by
          rw[jZ]at hnd;exact hnd.2.2 i hx i (by rw[hfi];simp) rfl
        refine aq (QY a s1 s2 us (fr.map λx:Nat=>(x:Int)) rm (i:Int) (f.map λx:Nat=>(x:Int)) (by rw[hfi];simp) ⟨by omega,by rw[eW];omega⟩ (by rw[fy];omega)) h λr w h=>?_;obtain⟨s2',h⟩:=h.lS;obtain⟨hr,h⟩:=h.aP;rw[hr];refine ae (λc=>(by simp at c)) λ_=>?_;rw[eW]at h;have h:au w0 S R w (aQ s KN l^ah t [.ptr (some ⟨a,0⟩),aX s,aJ (T.rt+1),aJ ks.length,aJ rm]^ah a [aX s1,aX s2',aJ rm]^aQ s1 KB (us.set i true)^aQ s2' KI (f.map λx:Nat=>(x:Int))^aQ q KI (gZ c).reverse^ah n1 (Ks.mk [.int .u64,.int .u64] k)^bg):=h.aK;have hsl:=(h.rd (s:=s)).2;refine⟨_,λ_ _ h=>h,?_⟩;dsimp only;refine ac (aj h rfl (ae (λc=>?_) λ_=>?_))
        · have c:(i:Int)=((s.len:Nat):Int):=cS
          omega
        · have hlk1:Lk (l.set i (k.1,k.2,-1,-1,1)) 5000:=by
            have:=hg.lk.set (C:=5000) (ig _) (i:=(i:Int)) ⟨by omega,by rw[eW];exact hil⟩ (x:=(k.1,k.2,-1,-1,1)) (.inl rfl) (.inl rfl) ⟨by show(0:Int)≤1;omega,by show(1:Int)≤5000;omega⟩;rwa[eW]at this
          refine aK w l (us.set i true) f i s s1 s2' l[i] hi (gG hil) (λp hp hpl=>rfl) hlk1 (by simp[hus]) (eM _) b1 (λhn=>?_) (λj hj=>?_) (λj hj=>hg.lt j (by rw[hfi];simp[hj])) (λj hj=>?_) hg.room h.aK
          · rw[hfi]at hn
            have hp:(T.cJ++(f++[i])).Perm (i::T.cJ++f):=by
              rw[←iD];exact(N_).trans (by simp)
            exact hp.nodup_iff.1 hn
          · rcases hg.all j hj with h|h
            · exact .inr (.inl h)
            · rw[hfi,dX,gH]at h
              rcases h with h|h
              · exact .inr (.inr h)
              · exact .inl h
          · rcases hj with rfl|hj
            · rw[sB (by omega)]
            · rw[ya (show i≠j from λe=>hi (e▸hj))]
              exact hg.on j hj
    · rw[aF hk]
      rw[hf];refine ae (λ_=>?_) λc=>(by have c:((i:Int)!= -1)=false:=c;simp at c);exact au.aH rfl (h.qJ t l T us fr a s s1 s2 hg).bq
end lM

end Go.X
