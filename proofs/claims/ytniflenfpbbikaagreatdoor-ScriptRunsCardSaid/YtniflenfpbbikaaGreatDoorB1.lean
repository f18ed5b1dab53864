/- Contracts. -/
import Derived.Test.YtniflenfpbbikaaGreatDoorB0
import Derived.Test.YtniflenfpbbikaaGreatDoorF0
import Derived.Test.YtniflenfpbbikaaGreatDoorF1
import Derived.Test.YtniflenfpbbikaaGreatDoorF2
import Derived.Test.YtniflenfpbbikaaGreatDoorF3
set_option linter.all false
set_option autoImplicit true
set_option relaxedAutoImplicit true
namespace Go.X
open IntKind (u64 i64)
open Go.Proofs
namespace bp
open bH
theorem JI(a b:Int)(ha:U a)(hb:U b):tT Tryz.prog lO [.lf (.int .u64 a),.lf (.int .u64 b),.lf (.int .u64 (0:Int))] [.lf (.int .u64),.lf (.int .u64)] bg (λr=>bs (r=((a+b)%18446744073709551616,(a+b)/18446744073709551616)) bg):=
 Tm (rY a b 0) λw0 S R h=>by
  refine⟨⟨⟨ha.1,hb.1⟩,by omega,by omega⟩,?_⟩;rw[show a+b+(0:Int)=a+b by omega];exact au.aH rfl h.aI
theorem e_(a b:Int)(ha:U a)(hb:U b):bu (oH a b) bg (λr=>bs (r=bJ a b) bg):=
 bC λw0 S R h=>by
  refine aK (JI a b ha hb) h λw h=>?_;unfold U at ha hb;refine ae (λc=>?_) λc=>?_
  ·have c:(a+b)/18446744073709551616>0:=cC;exact au.aH (by unfold bJ;rw[ay (by omega)]) h.aI
  ·have c:¬(a+b)/18446744073709551616>0:=cC;exact au.aH (by unfold bJ;rw[aG (by omega)];show(a+b)%18446744073709551616=_;omega) h.aI
theorem I_{a b:Int}(ha:U a)(hb:U b):u64.wrap (a-(if b<a then b else a))=dX a b:=by
 unfold U dX at*
 split
 ·rw[ay (by omega),ja]
 ·rw[ja];split<;>omega
theorem jg(a b:Int)(ha:U a)(hb:U b):bu (y_ a b) bg (λr=>bs (r=dX a b) bg):=
 bC λw0 S R h=>by exact au.aH (I_ ha hb) h.aI
theorem fP(a b:Int)(ha:U a)(hb:U b):bu (qH a b) bg (λr=>bs (r=bJ a b) bg):=
 bC λw0 S R h=>by
  unfold U at ha hb;rw[ja (n:=18446744073709551615-b)];refine ae (λc=>?_) λc=>?_
  ·have c:a>18446744073709551615-b:=cC;exact au.aH (by unfold bJ;rw[ay (by omega)]) h.aI
  ·have c:¬a>18446744073709551615-b:=cC;exact au.aH (by unfold bJ;rw[aG (by omega),ja]) h.aI
theorem ke(a b:Int)(ha:U a)(hb:U b):bu (wR a b) bg (λr=>bs (r=dX a b) bg):=
 bC λw0 S R h=>by
  unfold U at ha hb;refine ae (λc=>?_) λc=>?_
  ·have c:a<b:=cC;exact au.aH (by unfold dX;rw[aG (by omega)]) h.aI
  ·have c:¬a<b:=cC;exact au.aH (by unfold dX;rw[ay (by omega),ja]) h.aI
theorem wj(a b:Int)(ha:U a)(hb:U b):bu (JY a b) bg (λr=>bs (r=rE a b) bg):=
  bC λw0 S R h=>by
    have hn:=uW ha.1 hb.1;unfold U at ha hb;refine ae (λc=>?_) λc=>?_
    · have c:b>0:=cC
      refine⟨by show b≠0;omega,?_⟩;have e:u64.wrap ((18446744073709551615:Int).tdiv b)=18446744073709551615/b:=by
        rw[mD (by decide)];have h1:18446744073709551615/b≤18446744073709551615:=Ak _ (by decide);exact wu (Dy (by decide) (by omega)) (by omega)
      rw[e];have key:a≤18446744073709551615/b↔a*b≤18446744073709551615:=Dl c;refine ae (λc=>?_) λc=>?_
      · have c:a>18446744073709551615/b:=cC
        exact au.aH (by unfold rE;rw[ay (by
         have:¬a≤18446744073709551615/b:=(by omega);rw[key]at this;omega)]) h.aI
      · have c:¬a>18446744073709551615/b:=cC
        have:=key.1 (by omega);exact au.aH (by unfold rE;rw[aG (by omega),wu hn (by omega)]) h.aI
    · have c:¬b>0:=cC
      have:b=0:=(by omega);subst this;exact au.aH (by unfold rE;simp[wm]) h.aI
theorem mm(x:Int):x%4294967296%18446744073709551616=x%4294967296:=by omega
theorem Nu{x1 x0 y1 y0:Int}(h1:0≤x1∧x1<4294967296)(h0:0≤x0∧x0<4294967296)(g1:0≤y1∧y1<4294967296)(g0:0≤y0∧y0<4294967296):
  (0≤x1*y1∧x1*y1≤18446744065119617025)∧(0≤x1*y0∧x1*y0≤18446744065119617025)∧(0≤x0*y1∧x0*y1≤18446744065119617025)∧(0≤x0*y0∧x0*y0≤18446744065119617025):=by
 have k:∀{a b:Int},(0≤a∧a<4294967296)→(0≤b∧b<4294967296)→0≤a*b∧a*b≤18446744065119617025:=λ{a b} ha hb=>
  ⟨uW ha.1 hb.1,by
   have:=DA (show a≤4294967295 by omega) (show b≤4294967295 by omega) hb.1 (by omega);omega⟩
 exact⟨k h1 g1,k h1 g0,k h0 g1,k h0 g0⟩
theorem B_(x y:Int):x*y=(x/4294967296*(y/4294967296))*18446744073709551616+(x/4294967296*(y%4294967296)+x%4294967296*(y/4294967296))*4294967296+x%4294967296*(y%4294967296):=by
 have hx:x=x/4294967296*4294967296+x%4294967296:=by omega
 have hy:y=y/4294967296*4294967296+y%4294967296:=by omega
 obtain⟨a,ha⟩:∃a,x/4294967296=a:=⟨_,rfl⟩;obtain⟨b,hb⟩:∃a,x%4294967296=a:=⟨_,rfl⟩;obtain⟨c,hc⟩:∃a,y/4294967296=a:=⟨_,rfl⟩;obtain⟨d,hd⟩:∃a,y%4294967296=a:=⟨_,rfl⟩;rw[ha,hb]at hx;rw[hc,hd]at hy;rw[ha,hb,hc,hd,hx,hy];simp only[Int.add_mul,Int.mul_add];have e1:a*4294967296*(c*4294967296)=a*c*18446744073709551616:=by rw[v_,Int.mul_left_comm 4294967296,←v_];rfl
 have e2:a*4294967296*d=a*d*4294967296:=by rw[v_,xo 4294967296,←v_]
 have e3:b*(c*4294967296)=b*c*4294967296:=by rw[←v_]
 omega
theorem B9(a b:Int)(ha:U a)(hb:U b):bu (QG a b) bg (λr=>bs (r=(a*b/18446744073709551616,a*b%18446744073709551616)) bg):=
 bC λw0 S R h=>by
  refine⟨by decide,by decide,by decide,by decide,by decide,?_⟩;refine au.aH ?_ h.aI;have k:=Nu (x1:=a/4294967296) (x0:=a%4294967296) (y1:=b/4294967296) (y0:=b%4294967296) (by unfold U at ha;omega) (by omega) (by unfold U at hb;omega) (by omega);have hs:=B_ a b;simp only[ML,Xz,wm,mm];generalize a*b=z at*
  generalize a/4294967296*(b/4294967296)=p11 at*
  generalize a/4294967296*(b%4294967296)=p10 at*
  generalize a%4294967296*(b/4294967296)=p01 at*
  generalize a%4294967296*(b%4294967296)=p00 at*
  refine xu ?_ rfl;show _=z/18446744073709551616;omega
theorem Ps(a b:Int)(ha:U a)(hb:U b):bu (UZ a b) bg (λr=>bs (r=(a*b/18446744073709551616,a*b%18446744073709551616)) bg):=
 bC λw0 S R h=>by
  refine⟨by decide,by decide,by decide,by decide,by decide,by decide,by decide,?_⟩;refine au.aH ?_ h.aI;have k:=Nu (x1:=a/4294967296) (x0:=a%4294967296) (y1:=b/4294967296) (y0:=b%4294967296) (by unfold U at ha;omega) (by omega) (by unfold U at hb;omega) (by omega);have hs:=B_ a b;have sh:∀q:Int,q*2^min (32:Int).toNat u64.bits=q*4294967296:=λq=>rfl;simp only[ML,Xz,sh];generalize a*b=z at*
  simp only[wm,mm];generalize a/4294967296*(b/4294967296)=p11 at*
  generalize a/4294967296*(b%4294967296)=p10 at*
  generalize a%4294967296*(b/4294967296)=p01 at*
  generalize a%4294967296*(b%4294967296)=p00 at*
  refine xu ?_ ?_
  ·show _=z/18446744073709551616;omega
  ·show _=z%18446744073709551616;obtain⟨B7,hmid⟩:∃B7,(p00%18446744073709551616/4294967296+p10%18446744073709551616%4294967296)%18446744073709551616+p01%18446744073709551616%4294967296=B7:=⟨_,rfl⟩;rw[hmid];have em:B7%18446744073709551616*4294967296%18446744073709551616=B7%4294967296*(2^32:Nat):=by
    show _=_*(4294967296:Int);omega
   rw[or1 32 (B7%4294967296) (by omega) em (by unfold U;omega) (by omega) (by show _<(4294967296:Int);omega) (by unfold U;omega)];omega
def wX(h l c:Int):Int×Int:=if c=0 then(0,1)else if h≥c then(0,3)else((h*18446744073709551616+l)/c,0)
theorem p63{q:Int}{i:Nat}(hi:i<64)(h:q<2^i):q<9223372036854775808:=by
 have k:∀i:Nat,i<64→(2:Int)^i≤9223372036854775808:=by decide+kernel
 have:=k i hi;omega
theorem QZ(h l c:Int)(hh:U h)(hl:U l)(hc:U c):bu (Ve h l c) bg (λr=>bs (r=wX h l c) bg):=
 bC λw0 S R hO=>by
  refine ae (λc1=>?_) λc1=>?_
  ·have c1:c=0:=(by simpa using c1);exact au.aH (by unfold wX;rw[aG c1]) hO.aI
  have c1:¬c=0:=by simpa using c1
  refine ae (λc2=>?_) λc2=>?_
  ·have c2:h≥c:=gK;exact au.aH (by unfold wX;rw[ay c1,aG c2]) hO.aI
  have c2:¬h≥c:=gK;have e0:wX h l c=((h*18446744073709551616+l)/c,0):=by unfold wX;rw[ay c1,ay c2]
  rw[e0];refine cS (λ(_:xJ)=>bg) (λ(y:xJ)=>(0≤(y.2.2.2:Int))∧Dv (h*18446744073709551616+l) c y.2.2.1 y.1 y.2.1 y.2.2.2.toNat) (λ(y:xJ)=>64-y.2.2.2.toNat) hO ⟨gQ _,Dv.start hl hh.1 (by omega)⟩ ?_;rintro(⟨r,l,q,i⟩:Int×Int×Int×Int) w ⟨h0,d⟩ hO;dsimp only at h0 d hO⊢;refine ae (λc3=>?_) λc3=>?_
  ·have c3:i=64:=(by simpa using c3);rw[c3]at d;exact au.aH (by rw[d.last (by unfold U at hc;omega)]) hO.aI
  have c3:¬i=64:=by simpa using c3
  have il:=d.il;have hi:i.toNat<64:=by omega
  obtain⟨n1,n2⟩:=d.next hi;have q1:=p63 hi d.ql;have q0:=d.q0;have r0:=d.r0;have rc:=d.rc;have ul:=d.ul;have ei:(i+1).toNat=i.toNat+1:=by omega
  refine⟨by decide,by decide,by decide,by decide,by decide,?_⟩;rw[NE ul,NF,R9,R9,GG,gi (n:=i+1)];unfold U at hc ul;refine ae (λc4=>?_) λc4=>?_
  ·have c4:r/9223372036854775808=0∧2*r%18446744073709551616+l/9223372036854775808<c:=(by simpa using c4);have n:=n1 (by omega);refine⟨⟨⟨by show 0≤i+1;omega,?_⟩,hO⟩,by show 64-(i+1).toNat<64-i.toNat;omega⟩;show Dv _ c (2*q%18446744073709551616) (2*r%18446744073709551616+l/9223372036854775808) (2*l%18446744073709551616) (i+1).toNat;rw[ei,show 2*q%18446744073709551616=2*q by omega,show 2*r%18446744073709551616=2*r by omega];exact n
  ·have c4:¬(r/9223372036854775808=0∧2*r%18446744073709551616+l/9223372036854775808<c):=λhh=>by simp[hh]at c4
   have n:=n2 (by omega);refine⟨⟨⟨by show 0≤i+1;omega,?_⟩,hO⟩,by show 64-(i+1).toNat<64-i.toNat;omega⟩;show Dv _ c (2*q%18446744073709551616+1) (u64.wrap (2*r%18446744073709551616+l/9223372036854775808-c)) (2*l%18446744073709551616) (i+1).toNat;rw[ei,wm,show 2*q%18446744073709551616=2*q by omega,show(2*r%18446744073709551616+l/9223372036854775808-c)%18446744073709551616=2*r+l/9223372036854775808-c by omega];exact n
theorem Ol(h l c:Int)(hh:U h)(hl:U l)(hc:U c):bu (U0 h l c) bg (λr=>bs (r=wX h l c) bg):=
 bC λw0 S R hO=>by
  refine ae (λc1=>?_) λc1=>?_
  ·have c1:c=0:=(by simpa using c1);exact au.aH (by unfold wX;rw[aG c1]) hO.aI
  have c1:¬c=0:=by simpa using c1
  refine ae (λc2=>?_) λc2=>?_
  ·have c2:h≥c:=gK;exact au.aH (by unfold wX;rw[ay c1,aG c2]) hO.aI
  have c2:¬h≥c:=gK;have e0:wX h l c=((h*18446744073709551616+l)/c,0):=by unfold wX;rw[ay c1,ay c2]
  rw[e0];refine cS (λ(_:xJ)=>bg) (λ(y:xJ)=>(0≤(y.2.2.2:Int))∧Dv (h*18446744073709551616+l) c y.2.1 y.2.2.1 y.1 y.2.2.2.toNat) (λ(y:xJ)=>64-y.2.2.2.toNat) hO ⟨gQ _,Dv.start hl hh.1 (by omega)⟩ ?_;rintro(⟨l,q,r,i⟩:Int×Int×Int×Int) w ⟨h0,d⟩ hO;dsimp only at h0 d hO⊢;have il:=d.il;refine ae (λc3=>?_) λc3=>?_
  ·have c3:i<64:=(by simpa using c3);have hi:i.toNat<64:=(by omega);obtain⟨n1,n2⟩:=d.next hi;have q1:=p63 hi d.ql;have q0:=d.q0;have r0:=d.r0;have rc:=d.rc;have ul:=d.ul;have ei:(i+1).toNat=i.toNat+1:=(by omega);refine⟨by decide,by decide,by decide,by decide,by decide,?_⟩;rw[NE ul,NF,R9,R9,GG,gi (n:=i+1)];unfold U at hc ul;refine ae (λc4=>?_) λc4=>?_
   ·have c4:r/9223372036854775808=1∨2*r%18446744073709551616+l/9223372036854775808≥c:=(by simpa using c4);have n:=n2 (by omega);refine⟨⟨⟨by show 0≤i+1;omega,?_⟩,hO⟩,by show 64-(i+1).toNat<64-i.toNat;omega⟩;show Dv _ c (2*q%18446744073709551616+1) (u64.wrap (2*r%18446744073709551616+l/9223372036854775808-c)) (2*l%18446744073709551616) (i+1).toNat;rw[ei,wm,show 2*q%18446744073709551616=2*q by omega,show(2*r%18446744073709551616+l/9223372036854775808-c)%18446744073709551616=2*r+l/9223372036854775808-c by omega];exact n
   ·have c4:¬(r/9223372036854775808=1∨2*r%18446744073709551616+l/9223372036854775808≥c):=λhh=>by rcases hh with hh|hh<;>simp[hh]at c4
    have n:=n1 (by omega);refine⟨⟨⟨by show 0≤i+1;omega,?_⟩,hO⟩,by show 64-(i+1).toNat<64-i.toNat;omega⟩;show Dv _ c (2*q%18446744073709551616) (2*r%18446744073709551616+l/9223372036854775808) (2*l%18446744073709551616) (i+1).toNat;rw[ei,show 2*q%18446744073709551616=2*q by omega,show 2*r%18446744073709551616=2*r by omega];exact n
  ·have c3:¬i<64:=(by simpa using c3);rw[show i.toNat=64 by omega]at d;exact au.aH (by rw[d.last (by unfold U at hc;omega)]) hO.aI
theorem S8{a b c:Int}(ha:U a)(hb:U b)(hc:U c)(h:a*b≠0):qN a b c=if(wX (a*b/18446744073709551616) (a*b%18446744073709551616) c).2≠0 then 18446744073709551615 else(wX (a*b/18446744073709551616) (a*b%18446744073709551616) c).1:=by
 have hn:=uW ha.1 hb.1;unfold qN wX;rw[ay h];unfold U at hc;generalize a*b=z at*
 by_cases c1:c=0
 ·rw[aG c1,ay (by omega)];rfl
 ·rw[ay c1];by_cases c2:z/18446744073709551616≥c
  ·rw[aG c2,ay (by omega)];rfl
  ·rw[ay c2,aG (by omega),show z/18446744073709551616*18446744073709551616+z%18446744073709551616=z by omega];rfl
theorem Xv{a b:Int}(ha:U a)(hb:U b):U (a*b/18446744073709551616):=by
 have hn:=uW ha.1 hb.1;refine⟨by omega,Og (by decide) ?_⟩;unfold U at ha hb;have:=DA (show a≤18446744073709551615 by omega) (show b≤18446744073709551615 by omega) hb.1 (by omega);omega
theorem Xw(a:Int):U (a%18446744073709551616):=by unfold U;omega
theorem Pu(a b:Int)(ha:U a)(hb:U b):bu (Vd a b) bg (λr=>bs (r=(a*b/18446744073709551616,a*b%18446744073709551616)) bg):=
 bC λw0 S R h=>by
  refine aK (B9 a b ha hb) h λw h=>?_;exact au.aH rfl h.aI
theorem Jp{z:Int}(h:((z/18446744073709551616==(0:Int))&&(z%18446744073709551616==(0:Int)))=true):z=0:=by simp at h;omega
theorem F4{z:Int}(h:((z/18446744073709551616==(0:Int))&&(z%18446744073709551616==(0:Int)))=false):z≠0:=by rintro rfl;simp at h
theorem uO(a b c:Int)(ha:U a)(hb:U b)(hc:U c):bu (EC a b c) bg (λr=>bs (r=qN a b c) bg):=
 bC λw0 S R h=>by
  refine aK (Pu a b ha hb) h λw h=>?_;refine ae (λc1=>?_) λc1=>?_
  ·exact au.aH (by unfold qN;rw[aG (Jp c1)]) h.aI
  have hz:=F4 c1;refine aK (QZ _ _ c (Xv ha hb) (Xw _) hc) h λw h=>?_;have hm:=S8 ha hb hc hz;refine ae (λc2=>?_) λc2=>?_
  ·exact au.aH (by rw[hm,aG gK]) h.aI
  ·exact au.aH (by rw[hm,ay gK]) h.aI
theorem nY(a b c:Int)(ha:U a)(hb:U b)(hc:U c):bu (Bo a b c) bg (λr=>bs (r=qN a b c) bg):=
 bC λw0 S R h=>by
  refine aK (Ps a b ha hb) h λw h=>?_;refine ae (λc1=>?_) λc1=>?_
  ·exact au.aH (by unfold qN;rw[aG (Jp c1)]) h.aI
  have hz:=F4 c1;refine aK (Ol _ _ c (Xv ha hb) (Xw _) hc) h λw h=>?_;have hm:=S8 ha hb hc hz;refine ae (λc2=>?_) λc2=>?_
  ·exact au.aH (by rw[hm,aG gK]) h.aI
  ·exact au.aH (by rw[hm,ay gK]) h.aI
theorem u9(a b:Int)(ha:U a)(hb:U b):bu (Ms a b) bg (λr=>bs (r=rE a b) bg):=
 bC λw0 S R h=>by
  refine aK (B9 a b ha hb) h λw h=>?_;have hn:=uW ha.1 hb.1;refine ae (λc=>?_) λc=>?_
  ·have c:a*b/18446744073709551616>0:=cC;exact au.aH (by unfold rE;rw[ay (by omega)]) h.aI
  ·have c:¬a*b/18446744073709551616>0:=cC;exact au.aH (by unfold rE;rw[aG (by omega)];show a*b%18446744073709551616=_;omega) h.aI
end bp

namespace Xl
open bH
abbrev Cf:=Int×Int×Int×Int×Int×Int×Bool×Int×Int
abbrev KC:Ks:=[.int .i64,.int .i64,.int .i64,.int .i64,.int .u64,.int .u64,.bool,.int .i64,.int .i64]
abbrev cQ(c:Cf):Int:=c.1
abbrev cF(c:Cf):Int:=c.2.1
abbrev cL(c:Cf):Int:=c.2.2.1
abbrev cW(c:Cf):Int:=c.2.2.2.1
abbrev cH(c:Cf):Int:=c.2.2.2.2.1
abbrev cR(c:Cf):Int:=c.2.2.2.2.2.1
abbrev cD(c:Cf):Bool:=c.2.2.2.2.2.2.1
abbrev dZ(c:Cf):Int:=c.2.2.2.2.2.2.2.1
abbrev eU(c:Cf):Int:=c.2.2.2.2.2.2.2.2
def may(c:Cf):Bool:=decide (100≤cQ c∧cQ c≤65536)&&(decide (100≤cF c∧cF c≤65536)&&(decide (1≤cL c∧cL c≤512)&&(decide (1≤cW c∧cW c≤512)&&(decide (cH c≤4611686018427387904)&&(decide (1≤dZ c∧dZ c≤1073741824)&&decide (100≤eU c∧eU c≤9000))))))
structure yo(c:Cf):Prop where
 q:100≤cQ c∧cQ c≤65536
 f:100≤cF c∧cF c≤65536
 l:1≤cL c∧cL c≤512
 w:1≤cW c∧cW c≤512
 h:0≤cH c∧cH c≤4611686018427387904
 r:U (cR c)
 cap:1≤dZ c∧dZ c≤1073741824
 bt:100≤eU c∧eU c≤9000
abbrev z7:Cf:=(3000,15000,100,50,10000000000,0,false,100000,1000)
def nS(d:Cf):Cf:=((if 100≤cQ d∧cQ d≤65536 then cQ d else 3000),(if 100≤cF d∧cF d≤65536 then cF d else 15000),(if 1≤cL d∧cL d≤512 then cL d else 100),(if 1≤cW d∧cW d≤512 then cW d else 50),(if cH d≤4611686018427387904 then cH d else 10000000000),(cR d),(cD d),(if 1≤dZ d∧dZ d≤1073741824 then dZ d else 100000),(if 100≤eU d∧eU d≤9000 then eU d else 1000))
abbrev zC:List Lf:=[aE 0,aE 0,aE 0,aE 0,aB 0,aB 0,bc false,aE 0,aE 0]
end Xl

namespace gV
open bH bp
def dY(size ba:Int):Int:=if size<1∨ba=18446744073709551615 then 0 else if 1000000000<qN size 1000000000 ba then 1000000000 else qN size 1000000000 ba
def gu(a b:Int):Int:=if(if a=0 then 18446744073709551615 else a)>(if b=0 then 18446744073709551615 else b)then(if b=0 then 18446744073709551615 else b)else(if a=0 then 18446744073709551615 else a)
theorem wW(n r:Int)(hn:n<9223372036854775808)(hr:U r):bu (Bm n r) bg (λx=>bs (x=dY n r) bg):=
 bC λw0 S R h=>by
  unfold dY;refine ae (λc=>?_) λc=>?_
  ·have c:n<1∨r=18446744073709551615:=cC;rw[aG c];exact au.aH rfl h
  have c:¬(n<1∨r=18446744073709551615):=cC;rw[ay c,ja (n:=n)];refine ar (uO n 1000000000 r ⟨by omega,by omega⟩ (bm _) hr) h λx w h=>?_;obtain⟨hx,h⟩:=h.aP;rw[hx];exact au.aH rfl h.gm
theorem uY(n r:Int)(hn:n<9223372036854775808)(hr:U r):bu (L4 n r) bg (λx=>bs (x=dY n r) bg):=
 bC λw0 S R h=>by
  unfold dY;refine ae (λc=>?_) λc=>?_
  ·have c:n<1∨r=18446744073709551615:=cC;rw[aG c];exact au.aH rfl h
  have c:¬(n<1∨r=18446744073709551615):=cC;rw[ay c,ja (n:=n)];refine ar (nY n 1000000000 r ⟨by omega,by omega⟩ (bm _) hr) h λx w h=>?_;obtain⟨hx,h⟩:=h.aP;rw[hx];exact au.aH rfl h.gm
theorem oU{n r:Int}(hn:n<9223372036854775808)(hr:U r):U (dY n r):=by
 unfold dY;split
 ·exact bm 0
 ·rename_i c;have h:=yS (a:=n) (b:=1000000000) (c:=r) ⟨by omega,by omega⟩ (bm _) hr;split
  ·exact bm _
  ·exact h
end gV

namespace Jy
theorem Bq(s f C xs p)(hl:xs.length≤4294967296)(hf:∀x∈xs,vq Tryz.prog f [.lf (.int .i64 x)] [.lf .bool] C (λr=>bs (r=p x) C)):
  bu (Vb s f) (C^aV s KI xs) (λr=>bs (r=fI p xs) C):=
 bC λw S R h=>by
  have hsl:=(h.rd (s:=s)).2;refine cS (λ_=>C^aV s KI xs) (λ(y:Int)=>0≤y∧y.toNat≤xs.length∧∀j y',j<y.toNat→xs[j]?=some y'→p y'=false) (λ(y:Int)=>xs.length-y.toNat) h ⟨gQ 0,by simp,λj _ hj=>by simp at hj⟩ ?_;rintro(y:Int) w ⟨h0,h1,h2⟩ h;refine ae (λc=>?_) λc=>?_
  ·have hy:y.toNat<xs.length:=(by simp at c;omega);refine bS h h0 hy ?_;refine fj h s y.toNat 0 _ (bK hy) rfl (by decide) (Jl (ks:=KI)) ?_;refine mT (hf _ (qy hy)) h λr w h=>?_;obtain⟨hr,h⟩:=h.aP;have hw:i64.wrap (y+1)=y+1:=gi;refine ae (λc=>?_) λc=>?_
   ·refine au.aH ?_ h.aI;rw[ER (bK hy) (by rw[←hr];exact c) h2];exact(Ah h0).symm
   ·rw[hw];refine⟨⟨⟨(by show(0:Int)≤y+1;omega),(by show(y+1).toNat≤_;omega),λj y' hj hy'=>?_⟩,h⟩,(by show _-(y+1).toNat<_;omega)⟩;have hj:j<(y+1).toNat:=hj;by_cases hjy:j=y.toNat
    ·subst hjy;rw[bK hy]at hy';cases hy';rw[←hr];exact c
    ·exact h2 j y' (by omega) hy'
  ·refine au.aH ?_ h.aI;rw[vC];intro x hx;obtain⟨j,hj,rfl⟩:=Cd.1 hx;refine h2 j _ ?_ (bK hj);simp at c;omega
theorem C0(a b one C xs ys Q)(hl:xs.length≤4294967296)(hf:∀x∈xs,∀y∈ys,vq Tryz.prog one [.lf (.int .i64 x),.lf (.int .i64 y)] [.lf .bool] C (λr=>bs ((r=true)↔Q x y) C)):
  bu (ZP a b one) (C^aV a KI xs^aV b KI ys) (λr=>bs ((r=true)↔lj Q xs ys) C):=
 bC λw S R h=>by
  have ha:=(h.drop.rd (s:=a)).2;have hb:=((h.take (aV b KI ys)).rd (s:=b)).2;refine ae (λc=>?_) λc=>?_
  ·rw[ha,hb]at c;exact au.aH ⟨λh=>(by cases h),λh=>by have:=vg h;simp at c;omega⟩ h.aI
  ·rw[ha,hb]at c;have c:xs.length=ys.length:=by simp at c;omega
   refine cS (λ_=>aV a KI xs^aV b KI ys^C) (λ(i:Int)=>0≤i∧i.toNat≤xs.length∧(lj Q xs ys↔lj Q (xs.drop i.toNat) (ys.drop i.toNat))) (λ(i:Int)=>xs.length-i.toNat) h.aI ⟨gQ 0,gJ _,lF⟩ ?_;rintro(i:Int) w ⟨h0,h1,h2⟩ h;refine ae (λc2=>?_) λc2=>?_
   ·have hi:i.toNat<xs.length:=(by simp at c2;omega);have hi2:i.toNat<ys.length:=(by omega);refine aM h λw h=>?_;refine bS h h0 hi ?_;have hb':=h.le (fX _ _ _);refine bS hb' h0 hi2 ?_;refine dP h a i.toNat (bK hi) rfl ?_;refine dP hb' b i.toNat (bK hi2) rfl ?_;refine mT (hf _ (qy hi) _ (qy hi2)) h λr w h=>?_;obtain⟨hr,h⟩:=h.aP;rw[xX hi,xX hi2,lj,←hr]at h2;refine ae (λc3=>?_) λc3=>?_
    ·have c3:r=false:=(by simpa using c3);rw[c3]at h2;exact au.aH ⟨λh=>(by cases h),λh=>by have:=(h2.1 h).1;cases this⟩ h.aI
    ·have c3:r=true:=(by simpa using c3);rw[c3]at h2;have h2:lj Q xs ys↔lj Q (xs.drop (i.toNat+1)) (ys.drop (i.toNat+1)):=h2.trans ⟨λh=>h.2,λh=>⟨rfl,h⟩⟩;have e:(i+1).toNat=i.toNat+1:=(by omega);rw[gi];exact⟨⟨⟨by show(0:Int)≤i+1;omega,by show(i+1).toNat≤_;omega,by show _↔lj Q (xs.drop (i+1).toNat) (ys.drop (i+1).toNat);rw[e];exact h2⟩,h.aI⟩,by show _-(i+1).toNat<_;omega⟩
   ·have hi:i.toNat=xs.length:=(by simp at c2;omega);rw[hi,v7,c,v7,lj]at h2;exact au.aH ⟨λ_=>h2.2 trivial,λ_=>rfl⟩ h.aI
theorem E0(x y):bu (c52 x y) bg (λr=>bs ((r=true)↔x=y) bg):=
 bC λw S R h=>by
  repeat' (first
   |(refine aM h λw h=>?_)
   |(refine ac ?_)
   |(refine aw h rfl ?_)
   |(refine ah h rfl ?_)
   |(refine aO h ?_)
   |(refine aN h rfl ?_)
   |(refine az h (by rfl) λw h=>?_)
   |(refine aD h λn w h=>?_)
   |(refine aT h λw h=>?_)
   |(refine bh h rfl λw h=>?_;dsimp only[dE,over]at h))
  all_goals exact au.aH (by simp[As]) h.gm
theorem Br(a b xs ys)(hl:xs.length≤4294967296):
  bu (ZC a b) (bg^aV a KI xs^aV b KI ys) (λr=>bs ((r=true)↔xs=ys) bg):=
 bC λw S R h=>by
  refine ar (C0 a b _ bg xs ys Eq hl (λx _ y _=>(tT.g (f:=kE) (args:=[.lf (.int .i64 x),.lf (.int .i64 y)]) (caps:=[]) (E0 x y)).v)) h λr w h=>?_;obtain⟨hr,h⟩:=h.aP;exact au.aH (hr.trans (ym xs ys)) h.br
theorem zz(s x xs)(hl:xs.length≤4294967296):
  bu (QE s x) (bg^aV s KI xs) (λr=>bs ((r=true)↔x∈xs) bg):=
 bC λw S R h=>by
  have hs:=(h.drop.rd (s:=s)).2
  skip
  refine cS (λ_=>aV s KI xs) (λ(i:Int)=>0≤i∧i.toNat≤xs.length∧(x∈xs↔x∈xs.drop i.toNat)) (λ(i:Int)=>xs.length-i.toNat) h.aI ⟨gQ 0,gJ _,lF⟩ ?_;rintro(i:Int) w ⟨h0,h1,h2⟩ h;refine ae (λc2=>?_) λc2=>?_
  ·have hi:i.toNat<xs.length:=(by simp at c2;omega);refine bS h h0 hi ?_;refine dP h s i.toNat (bK hi) rfl ?_;rw[xX hi,ec]at h2;refine ae (λc3=>?_) λc3=>?_
   ·have c3:xs[i.toNat]=x:=(by simpa [As]using c3);exact au.aH ⟨λ_=>h2.2 (.inl c3.symm),λ_=>rfl⟩ h.gm
   ·have c3:¬xs[i.toNat]=x:=(by simpa [As]using c3);have e:(i+1).toNat=i.toNat+1:=(by omega);rw[gi];exact⟨⟨⟨by show(0:Int)≤i+1;omega,by show(i+1).toNat≤_;omega,by show _↔x∈xs.drop (i+1).toNat;rw[e,h2];exact⟨λh=>h.elim (λh=>absurd h.symm c3) id,.inr⟩⟩,h.aI⟩,by show _-(i+1).toNat<_;omega⟩
  ·have hi:i.toNat=xs.length:=(by simp at c2;omega);rw[hi,v7]at h2;exact au.aH ⟨λh=>(by cases h),λh=>(by simp at h2;exact absurd h h2)⟩ h.gm
end Jy

namespace PO
abbrev LD:Ks:=[.int .i64,.int .u64,.int .i64,.int .u64,.bool]
theorem DU(a b one C xs ys Q)(hl:xs.length≤4294967296)(hf:∀x∈xs,∀y∈ys,vq Tryz.prog one [.agg (Ks.mk LD x),.agg (Ks.mk LD y)] [.lf .bool] C (λr=>bs ((r=true)↔Q x y) C)):
  bu (ZO a b one) (C^aV a LD xs^aV b LD ys) (λr=>bs ((r=true)↔lj Q xs ys) C):=
 bC λw S R h=>by
  have ha:=(h.drop.rd (s:=a)).2;have hb:=((h.take (aV b LD ys)).rd (s:=b)).2;refine ae (λc=>?_) λc=>?_
  ·rw[ha,hb]at c;exact au.aH ⟨λh=>(by cases h),λh=>by have:=vg h;simp at c;omega⟩ h.aI
  ·rw[ha,hb]at c;have c:xs.length=ys.length:=by simp at c;omega
   refine cS (λ_=>aV a LD xs^aV b LD ys^C) (λ(i:Int)=>0≤i∧i.toNat≤xs.length∧(lj Q xs ys↔lj Q (xs.drop i.toNat) (ys.drop i.toNat))) (λ(i:Int)=>xs.length-i.toNat) h.aI ⟨gQ 0,gJ _,lF⟩ ?_;rintro(i:Int) w ⟨h0,h1,h2⟩ h;refine ae (λc2=>?_) λc2=>?_
   ·have hi:i.toNat<xs.length:=(by simp at c2;omega);have hi2:i.toNat<ys.length:=(by omega);refine aM h λw h=>?_;refine bS h h0 hi ?_;have hb':=h.le (fX _ _ _);refine bS hb' h0 hi2 ?_;refine dP h a i.toNat (bK hi) rfl ?_;refine dP hb' b i.toNat (bK hi2) rfl ?_;refine mT (hf _ (qy hi) _ (qy hi2)) h λr w h=>?_;obtain⟨hr,h⟩:=h.aP;rw[xX hi,xX hi2,lj,←hr]at h2;refine ae (λc3=>?_) λc3=>?_
    ·have c3:r=false:=(by simpa using c3);rw[c3]at h2;exact au.aH ⟨λh=>(by cases h),λh=>by have:=(h2.1 h).1;cases this⟩ h.aI
    ·have c3:r=true:=(by simpa using c3);rw[c3]at h2;have h2:lj Q xs ys↔lj Q (xs.drop (i.toNat+1)) (ys.drop (i.toNat+1)):=h2.trans ⟨λh=>h.2,λh=>⟨rfl,h⟩⟩;have e:(i+1).toNat=i.toNat+1:=(by omega);rw[gi];exact⟨⟨⟨by show(0:Int)≤i+1;omega,by show(i+1).toNat≤_;omega,by show _↔lj Q (xs.drop (i+1).toNat) (ys.drop (i+1).toNat);rw[e];exact h2⟩,h.aI⟩,by show _-(i+1).toNat<_;omega⟩
   ·have hi:i.toNat=xs.length:=(by simp at c2;omega);rw[hi,v7,c,v7,lj]at h2;exact au.aH ⟨λ_=>h2.2 trivial,λ_=>rfl⟩ h.aI
theorem FT(x y):bu (c50 x y) bg (λr=>bs ((r=true)↔x=y) bg):=
 bC λw S R h=>by
  repeat' (first
   |(refine aM h λw h=>?_)
   |(refine ac ?_)
   |(refine aw h rfl ?_)
   |(refine ah h rfl ?_)
   |(refine aO h ?_)
   |(refine aN h rfl ?_)
   |(refine az h (by rfl) λw h=>?_)
   |(refine aD h λn w h=>?_)
   |(refine aT h λw h=>?_)
   |(refine bh h rfl λw h=>?_;dsimp only[dE,over]at h))
  all_goals exact au.aH (by simp[As]) h.gm
theorem uf(a b xs ys)(hl:xs.length≤4294967296):
  bu (YO a b) (bg^aV a LD xs^aV b LD ys) (λr=>bs ((r=true)↔xs=ys) bg):=
 bC λw S R h=>by
  refine ar (DU a b _ bg xs ys Eq hl (λx _ y _=>(tT.g (f:=jl) (args:=[.agg (Ks.mk LD x),.agg (Ks.mk LD y)]) (caps:=[]) (FT x y)).v)) h λr w h=>?_;obtain⟨hr,h⟩:=h.aP;exact au.aH (hr.trans (ym xs ys)) h.br
end PO

namespace fL
abbrev LV:=List Int×List Int
def jL(b:Nat)(v:LV):SP:=ex λs:Sl×Sl=>af b [aY s.1,aY s.2]^aS s.1 KI v.1^aS s.2 KI v.2
instance(b:Nat)(v:LV):nl (jL b v):=by unfold jL;infer_instance
theorem _root_.Go.X.au.jL(h:au w0 S0 R0 w F)(b)[t:ol fL.jL b F v G]:∃s1 s2,au w0 S0 R0 w (af b [aY s1,aY s2]^aS s1 KI v.1^aS s2 KI v.2^G):=by
 obtain⟨s,h⟩:=(h.le t.le).lV;exact⟨s.1,s.2,h.le ((bZ _ _ _).trans (bi Le.rfl (bZ _ _ _)))⟩
theorem _root_.Go.X.au.Fc(h:au w0 S0 R0 w F)(b s1 s2 v)[t:Take (af b [aY s1,aY s2]^aS s1 KI v.1^aS s2 KI v.2) F G]:au w0 S0 R0 w (fL.jL b v^G):=
 (h.le t.le).tQ (f:=λs:Sl×Sl=>af b [aY s.1,aY s.2]^aS s.1 KI v.1^aS s.2 KI v.2) (s1,s2)
def wF(v:LV):Prop:=(v.1++v.2).Nodup∧∀x∈v.1++v.2,0≤x∧x<8
theorem wF.GH(h:wF v):v.1.length+v.2.length≤8:=by
 have:=qk 8 (v.1++v.2) h.1 h.2;rwa[gp]at this
def bX(v:LV)(s:Int):Int:=if s∈v.1 then 1 else if s∈v.2 then 2 else 0
theorem ma{s:Int}:bX v s=0↔s∉v.1++v.2:=by
 unfold bX;rw[eQ];split
 ·simp_all
 ·split<;>simp_all
def kH(v:LV)(s:Int)(f:Bool):Int×LV:=if s<0∨8≤s then(8,v)else if bX v s≠0 then(6,v)else if f then(0,(v.1++[s],v.2))else(0,(v.1,v.2++[s]))
def cd(v:LV):Int×Bool×Bool:=match v.1,v.2 with
 |x::_,_=>(x,true,true)
 |[],x::_=>(x,false,true)
 |[],[]=>(0,false,false)
def dM(v:LV)(s:Int):LV:=(v.1.filter (λx=>decide (x≠s)),v.2.filter (λx=>decide (x≠s)))
def jH(v:LV)(s:Int):Bool×LV:=(decide (bX v s≠0),dM v s)
def cy(v:LV):Bool×LV:=if(cd v).2.2 then(true,dM v (cd v).1)else(false,v)
def fg(v:LV):Bool×LV:=if(cd v).2.2 then(true,((dM v (cd v).1).1,(dM v (cd v).1).2++[(cd v).1]))else(false,v)
def lm(v:LV):List (Int×Bool):=v.1.map (λx=>(x,true))++v.2.map (λx=>(x,false))
theorem wF.push(h:wF v)(s:Int)(f):wF (kH v s f).2:=by
 unfold kH;split
 ·exact h
 ·split
  ·exact h
  ·rename_i h1 h2;have h2:s∉v.1++v.2:=ma.1 (by simpa using h2);have h3:∀x∈v.1++v.2,x≠s:=λx hx e=>h2 (e▸hx);have hs:0≤s∧s<8:=by omega
   obtain⟨hd,hr⟩:=h;rw[ka]at hd;obtain⟨d1,d2,d3⟩:=hd;split
   ·constructor
    ·show(v.1++[s]++v.2).Nodup;rw[jF,ka];refine⟨d1,by rw[Dr,lD];exact⟨λhx=>h2 (by simp[hx]),d2⟩,λa ha b hb=>?_⟩;rw[Dr,ec]at hb;rcases hb with rfl|hb
     ·exact h3 a (by simp[ha])
     ·exact d3 a ha b hb
    ·intro x hx;have hx:x∈v.1++[s]++v.2:=hx;simp only[eQ,j_]at hx;rcases hx with(hx|rfl)|hx
     ·exact hr x (by simp[hx])
     ·exact hs
     ·exact hr x (by simp[hx])
   ·constructor
    ·show(v.1++(v.2++[s])).Nodup;rw[ka];refine⟨d1,?_,λa ha b hb=>?_⟩
     ·rw[ka];exact⟨d2,by simp,λa ha b hb=>by simp at hb;rw[hb];exact h3 a (by simp[ha])⟩
     ·rw[eQ,j_]at hb;rcases hb with hb|rfl
      ·exact d3 a ha b hb
      ·exact h3 a (by simp[ha])
    ·intro x hx;have hx:x∈v.1++(v.2++[s]):=hx;simp only[eQ,j_]at hx;rcases hx with hx|hx|rfl
     ·exact hr x (by simp[hx])
     ·exact hr x (by simp[hx])
     ·exact hs
theorem wF.out(h:wF v)(s:Int):wF (dM v s):=by
 have e:(dM v s).1++(dM v s).2=(v.1++v.2).filter (λx=>decide (x≠s)):=by rw[Du];rfl
 constructor
 ·rw[e];exact h.1.filter _
 ·rw[e];intro x hx;exact h.2 x (ud.1 hx).1
theorem lB(h:(cd v).2.2=true):(cd v).1∈v.1++v.2:=by
 obtain⟨a,b⟩:=v;cases a with
 |cons x a=>simp[cd]
 |nil=>cases b with
  |cons x b=>simp[cd]
  |nil=>simp[cd]at h
theorem xd(v)(s:Int):s∉(dM v s).1++(dM v s).2:=by simp[dM]
theorem wF.drop(h:wF v):wF (cy v).2:=by
 unfold cy;split
 ·exact h.out _
 ·exact h
theorem BK(h:wF v)(hh:(cd v).2.2=true):kH (dM v (cd v).1) (cd v).1 false=(0,(fg v).2):=by
 have hm:=h.2 _ (lB hh);rw[kH,ay (by omega),ay (by simpa using ma.2 (xd v _)),ay (by simp),fg,aG hh]
theorem wF.back(h:wF v):wF (fg v).2:=by
 by_cases hh:(cd v).2.2=true
 ·have:=(h.out (cd v).1).push (cd v).1 false;rwa[BK h hh]at this
 ·rw[fg,ay hh];exact h
theorem yw{p:Int→Bool}{xs:List Int}{j:Nat}{x:Int}(h:xs[j]?=some x):(xs.take (j+1)).filter p=(xs.take j).filter p++(if p x then [x]else []):=by rw[lC,h,Du];congr 1;simp[Am]
theorem Iy(s:Sl)(f:Fv)(C:SP)[nl C](xs:List Int)(p:Int→Bool)(hl:xs.length≤4294967296)(hf:∀x∈xs,vq Tryz.prog f [.lf (.int .i64 x)] [.lf .bool] C (λr=>bs (r=p x) C)):
  bu (Ql s f) (C^aS s KI xs) (λr=>C^aS r KI (xs.filter (λx=>!p x))):=
 bC λw S R h=>by
  have hs:=(h.drop.rd (s:=s)).2;refine bP (A:=C) (Q:=aV s KI xs) (Jy.Bq s f C xs p hl hf) h λr w h=>?_;obtain⟨hr,h⟩:=h.aP;refine ae (λc=>?_) λc=>?_
  ·have c:r=-1:=cC;have e:xs.filter (λx=>!p x)=xs:=by
    rw[Aw];intro x hx;have:=MJ p xs;rw[←hr,c]at this;have h2:xs.any p=false:=this.symm;rw[List.any_eq_false]at h2;simpa using h2 x hx
   rw[e];exact h
  ·have c:r≠-1:=cC;have h0:0≤fI p xs:=by
    unfold fI at hr⊢;split at hr<;>simp_all
   have hfi:∃k:Nat,fI p xs=(k:Int)∧k<xs.length∧(∀j y,j<k→xs[j]?=some y→p y=false)∧∃x,xs[k]?=some x∧p x=true:=by
    unfold fI at h0⊢;cases hk:xs.findIdx? p with
    |none=>rw[hk]at h0;simp at h0
    |some k=>
     obtain⟨hl,hp,hn⟩:=FA.1 hk;refine⟨k,rfl,hl,λj y hj hy=>?_,xs[k],by simp,hp⟩;obtain⟨hl2,rfl⟩:=iy.1 hy;simpa using hn j hj
   obtain⟨k,hk,hkl,hkn,x0,hx0,hp0⟩:=hfi;rw[hk]at hr;have hw0:i64.wrap (r+1)=(k:Int)+1:=by rw[hr];exact gi
   rw[hw0,hr];have hpre:(xs.take k).filter (λx=>!p x)=xs.take k:=by
    rw[Aw];intro x hx;obtain⟨j,hj,rfl⟩:=Cd.1 hx;rw[fO]at hj;rw[List.getElem_take,hkn j _ (by omega) (bK (by omega))];rfl
   have hin:xs.take ((k:Int)).toNat=(xs.take ((k:Int)+1).toNat).filter (λx=>!p x):=(by rw[show((k:Int)+1).toNat=k+1 by omega,show((k:Int)).toNat=k by omega,yw hx0,hpre,hp0];simp);refine cS (λ(y:Int×Int)=>xQ (λys:List Int=>ys.length=xs.length∧ys.take y.1.toNat=(xs.take y.2.toNat).filter (λx=>!p x)∧ys.drop y.2.toNat=xs.drop y.2.toNat) (λys=>C^aS s KI ys))
    (λ(y:Int×Int)=>0≤y.1∧y.1<y.2∧y.2≤xs.length) (λ(y:Int×Int)=>xs.length-y.2.toNat) (h.rA xs ⟨rfl,hin,rfl⟩).br ⟨by show(0:Int)≤k;omega,by show(k:Int)<k+1;omega,by show(k:Int)+1≤_;omega⟩ ?_
   rintro(⟨i,j⟩:Int×Int) w ⟨i0,i1,i2⟩ h;dsimp only at i0 i1 i2 h⊢;obtain⟨ys,⟨y1,y2,y3⟩,h⟩:=h.NJ;refine ae (λc=>?_) λc=>?_
   ·have hj:j.toNat<xs.length:=(by simp at c;omega);have hx:=bK hj;have hj1:(j+1).toNat=j.toNat+1:=(by omega);have hi1:(i+1).toNat=i.toNat+1:=(by omega);have hyj:ys[j.toNat]?=some xs[j.toNat]:=by
     have:=c_ (λz=>z[0]?) y3;rw[←hx];simpa using this
    have hd:ys.drop (j.toNat+1)=xs.drop (j.toNat+1):=by
     have:=c_ (λz=>z.drop 1) y3;simpa using this
    have hw1:i64.wrap (j+1)=j+1:=gi;have hw2:i64.wrap (i+1)=i+1:=gi;refine bS h (by show 0≤j;omega) (by show j.toNat<_;omega) ?_;refine dP h s j.toNat hyj rfl ?_;refine mT (hf _ (qy hj)) h λr w h=>?_;obtain⟨hr,h⟩:=h.aP;rw[hw1,hw2];refine ae (λc=>?_) λc=>?_
    ·have hp:p xs[j.toNat]=false:=(by rw[←hr];simpa using c);refine bS h i0 (by show i.toNat<_;omega) ?_;refine mG h s i.toNat 0 ys[i.toNat] xs[j.toNat] (bK (by omega)) rfl (by simp) (by simp) rfl λw h=>?_;refine⟨⟨⟨by show 0≤i+1;omega,by show i+1<j+1;omega,by show j+1≤_;omega⟩,(h.rA (ys.set i.toNat xs[j.toNat]) ⟨by simp[y1],?_,?_⟩).br⟩,by show _-(j+1).toNat<_-j.toNat;omega⟩
     ·show _=(xs.take (j+1).toNat).filter _;show List.take (i+1).toNat _=_;rw[hi1,hj1,yw hx,←y2,lC,List.take_set_of_le (eE _),sD (by omega),hp]
      rfl
     ·show _=xs.drop (j+1).toNat;show List.drop (j+1).toNat _=_;rw[hj1,List.drop_set_of_lt (by omega),hd]
    ·have hp:p xs[j.toNat]=true:=(by rw[←hr];simpa using c);refine⟨⟨⟨i0,by show i<j+1;omega,by show j+1≤_;omega⟩,(h.rA ys ⟨y1,?_,?_⟩).br⟩,by show _-(j+1).toNat<_-j.toNat;omega⟩
     ·show _=(xs.take (j+1).toNat).filter _;rw[hj1,yw hx,←y2,hp];simp
     ·show List.drop (j+1).toNat _=xs.drop (j+1).toNat;rw[hj1,hd]
   ·have hj:j.toNat=xs.length:=(by simp at c;omega);have hys:ys.length=s.len:=(by omega);have hfil:xs.filter (λx=>!p x)=ys.take i.toNat:=(by rw[y2,hj,sE]);have hca:=pi (s:=s) h;refine D8 (s:=s) h (h.nrm s) i.toNat ys.length s.cap rfl (by show i=_;omega) (by show ys.length=_;omega) rfl (by omega) (by omega) (by omega) (by omega) λhl8 _=>?_;refine Lp (s:=s) (l:=i.toNat) (z:=(0:Int)) h rfl rfl (by omega) λw h=>?_;refine wE (s:=s) h 0 i.toNat s.cap rfl rfl (by show i=_;omega) rfl (by omega) (by simp;omega) (by omega) (by omega) λs9 _ _ h=>?_;have e:(List.take i.toNat (ys.take i.toNat++List.replicate (ys.length-i.toNat) 0)).drop 0=xs.filter (λx=>!p x):=(by rw[v8,NZ (by simp;omega),List.take_take,Nat.min_self,hfil]);have h:=h.eN (s:=s9) e;exact h.aI
theorem MW(n:Int)(h0:0≤n)(h1:n≤4294967296):bu (Va ⟨none,0,0⟩ n) bg (λr=>aS r KI []):=
 bC λw S R h=>by
  have h:=h.nil KI;refine aQ h (λ_=>aS ⟨none,0,0⟩ KI []) (λ_=>True) (λy w _ h=>?_) ?_
  ·have e1:i64.wrap (((0:Nat):Int)-((0:Nat):Int))=0:=rfl;have e2:i64.wrap (n-0)=n:=(by rw[Int.sub_zero];exact gi);show aq (decide (i64.wrap (n-i64.wrap (((0:Nat):Int)-((0:Nat):Int)))>0)) _ _ w;refine ae (λc=>?_) λc=>?_
   ·refine wE (s:=⟨none,0,0⟩) h 0 0 0 rfl rfl rfl rfl (by omega) (by simp) (by omega) (by simp) λs3 hl3 hc3 h=>?_;show PX _ 1 s3 (i64.wrap (n-i64.wrap (((0:Nat):Int)-((0:Nat):Int)))) _ w;rw[e1,e2];refine WJ (s:=s3) (z:=(0:Int)) h rfl rfl h0 (by simp;omega) λs4 w hl4 h=>?_;have hc:=pi (s:=s4) h;refine wE (s:=s4) h 0 0 s4.cap rfl rfl rfl rfl (by omega) (by omega) (by omega) (by omega) λs5 hl5 hc5 h=>?_;have h:=h.eN (s:=s5) (ys:=[]) (by simp);exact h.br
   ·exact h
  ·refine ae (λc=>?_) λc=>?_
   ·exfalso;simp at c;omega
   ·exact⟨trivial,h.br⟩
theorem Gx(n a b)(xs ys:List Int)(hl:xs.length+ys.length≤4294967296):
  bu (UK ⟨some ⟨n,0⟩,2,2⟩) (aS ⟨some ⟨n,0⟩,2,2⟩ [.sl] [a,b]^aV a KI xs^aV b KI ys) (λr=>aS r KI (xs++ys)):=
 bC λw S R h=>by
  have ha:=(h.drop.rd (s:=a)).2;have hb:=((h.drop.le (be _ _)).rd (s:=b)).2;refine cS (λ_=>aS ⟨some ⟨n,0⟩,2,2⟩ [.sl] [a,b]^aV a KI xs^aV b KI ys) (λ(y:Int×Int)=>(y.2=0∧y.1=0)∨(y.2=1∧y.1=xs.length)∨(y.2=2∧y.1=xs.length+ys.length)) (λ(y:Int×Int)=>(2-y.2).toNat) h (.inl ⟨rfl,rfl⟩) ?_;rintro(⟨z,i⟩:Int×Int) w hz h;dsimp only at hz⊢;refine ae (λc=>?_) λc=>?_
  ·have hi:i=0∨i=1:=(by simp at c;omega);have hg:∃q:Sl,[a,b][i.toNat]?=some q∧((i=0∧q.len=xs.length)∨(i=1∧q.len=ys.length)):=by
    rcases hi with rfl|rfl
    ·exact⟨a,rfl,.inl ⟨rfl,ha⟩⟩
    ·exact⟨b,rfl,.inr ⟨rfl,hb⟩⟩
   obtain⟨q,hq,hql⟩:=hg;refine bS h (by omega) (by simp;omega) ?_;refine dP h ⟨some ⟨n,0⟩,2,2⟩ i.toNat hq rfl ?_;have hw:i64.wrap (z+(q.len:Int))=z+q.len:=gi;rw[hw,gi (n:=i+1)];refine ae (λc=>by simp at c;omega) λc=>?_;refine⟨⟨?_,h⟩,by show(2-(i+1)).toNat<(2-i).toNat;omega⟩;show(i+1=0∧_)∨(i+1=1∧z+(q.len:Int)=_)∨(i+1=2∧z+(q.len:Int)=_);omega
  ·have hi:i=2:=(by simp at c;omega);have hz:z=xs.length+ys.length:=(by omega);refine ar (MW z (by omega) (by omega)) (h.le ((aJ _).trans (be _ _))) λr w h=>?_;obtain⟨g,g0,g1,g2⟩:∃g:Int→List Int,g 0=[]∧g 1=xs∧g 2=xs++ys:=⟨λi=>if i=0 then []else if i=1 then xs else xs++ys,by simp,by simp,by simp⟩;have h:=h.eN (s:=r) (K:=KI) (ys:=g 0) g0.symm;refine cS (λ(y:Sl×Int)=>aS y.1 KI (g y.2)^aS ⟨some ⟨n,0⟩,2,2⟩ [.sl] [a,b]^aV a KI xs^aV b KI ys) (λ(y:Sl×Int)=>0≤y.2∧y.2≤2) (λ(y:Sl×Int)=>(2-y.2).toNat) h ⟨by simp,by simp⟩ ?_;rintro(⟨s,i⟩:Sl×Int) w ⟨i0,i1⟩ h;dsimp only at i0 i1 h⊢;refine ae (λc=>?_) λc=>?_
   ·have hi:i=0∨i=1:=(by simp at c;omega);have h':=h.le (fX _ _ _);rcases hi with rfl|rfl
    ·refine bS h' (by omega) (by simp) ?_;refine dP h' ⟨some ⟨n,0⟩,2,2⟩ 0 rfl rfl ?_;refine dF (x:=a) h rfl (by rw[g0];simp;omega) λs10 w _ h=>?_;have e:i64.wrap (0+1)=1:=rfl;rw[e];have h:=h.eN (s:=s10) (K:=KI) (ys:=g 1) (by rw[g0,g1,pr]);exact⟨⟨⟨by simp,by simp⟩,h⟩,by simp⟩
    ·refine bS h' (by omega) (by simp) ?_;refine dP h' ⟨some ⟨n,0⟩,2,2⟩ 1 rfl rfl ?_;have hb2:Rd b (aS s KI (g 1)^aS ⟨some ⟨n,0⟩,2,2⟩ [.sl] [a,b]^aV a KI xs^aV b KI ys) KI ys:=⟨λw S R h=>by
      obtain⟨_,_,_,_,_,⟨_,_,_,_,_,⟨_,_,_,_,_,h,_⟩,_⟩,_⟩:=h;exact h.1,λw S R h hne q hq=>by
      obtain⟨_,_,_,_,_,⟨_,_,_,_,_,⟨_,_,_,_,_,h,_,hR3,_⟩,_,hR2,_⟩,_,hR1,_⟩:=h;exact .inr ((hR1 _).2 (.inr ((hR2 _).2 (.inr ((hR3 _).2 (.inr ((h.2.2 _).2 ⟨⟨q,hq,rfl⟩,hne⟩)))))))⟩
     refine dF (x:=b) (r:=hb2) h rfl (by rw[g1];omega) λs10 w _ h=>?_;have e:i64.wrap (1+1)=2:=rfl;rw[e];have h:=h.eN (s:=s10) (K:=KI) (ys:=g 2) (by rw[g1,g2]);exact⟨⟨⟨by simp,by simp⟩,h⟩,by simp⟩
   ·have hi:i=2:=(by simp at c;omega);have h:=h.eN (s:=s) (K:=KI) (ys:=xs++ys) (by rw[hi,g2]);exact h.aI
def vQ(n:Nat):Fv:=.mk (.func jP) [] [V1.enc (.lf (.ptr (some ⟨n,0⟩)))]
theorem jd(p):bu (L6 p) bg (λf=>ex λn=>bs (f=vQ n) (af n [.ptr p])):=
 bC λw S R h=>by
  refine aD h λn1 w h=>?_;exact au.ie n1 (au.aH rfl h.br)
theorem Ip{v:LV}{i:Nat}{x:Int}(h:(v.1++v.2)[i]?=some x):(lm v)[i]?=some (x,decide ((i:Int)<(v.1.length:Int))):=by
 unfold lm;by_cases hi:i<v.1.length
 ·rw[pn hi]at h;rw[pn (by simpa using hi),kV,h];simp[hi]
 ·rw[t_ (by omega)]at h;rw[t_ (by simp;omega),kV,fz,h];simp;omega
theorem yV(v):(lm v).length=v.1.length+v.2.length:=by simp[lm]
theorem lQ(n b v)(hl:v.1.length+v.2.length≤4294967296):Iter Tryz.prog (vQ n) (af n [.ptr (some ⟨b,0⟩)]^jL b v) [.lf (.int .i64),.lf .bool] (lm v):=by
 intro y I D hy;refine tT.g (f:=jP) (args:=[.lf (.fn y)]) (caps:=[.lf (.ptr (some ⟨n,0⟩))]) (bC (c:=XI y ⟨n,0⟩) λw S R h=>?_);refine ah h rfl ?_;refine ae (λc=>(by cases c)) λc=>?_;refine ah h rfl ?_;obtain⟨s1,s2,h⟩:=h.jL b;have hs1:=((h.take (aS s1 KI v.1)).rd (s:=s1)).2;refine ac (ah h rfl ?_);refine aM h λw h=>?_;refine ah h rfl (ah h rfl (ac (ac (ah h rfl (ah h rfl ?_)))));refine aD h λn11 w h=>?_;have h:=h.co n11 [.sl] [s1,s2] rfl (by simp);have h:=(h.take (af b [aY s1,aY s2]^aS s1 KI v.1^aS s2 KI v.2^aS ⟨some ⟨n11,0⟩,2,2⟩ [.sl] [s1,s2]^af n [.ptr (some ⟨b,0⟩)]^I 0)).br;refine bP (A:=aS ⟨some ⟨n11,0⟩,2,2⟩ [.sl] [s1,s2]) (Q:=aV s1 KI v.1^aV s2 KI v.2) (Gx n11 s1 s2 v.1 v.2 hl) h λr w h=>?_;have hr:=(h.rd (s:=r)).2;have h:=h.Fc b s1 s2 v;have h:au _ _ _ _ (aS r KI (v.1++v.2)^jL b v^af n [.ptr (some ⟨b,0⟩)]^I 0):=h.aI;have hlen:(v.1++v.2).length=v.1.length+v.2.length:=gp;refine cS (λ(i:Int)=>aS r KI (v.1++v.2)^jL b v^af n [.ptr (some ⟨b,0⟩)]^I i.toNat) (λ(i:Int)=>0≤i∧i.toNat≤(v.1++v.2).length) (λ(i:Int)=>(v.1++v.2).length-i.toNat) h ⟨gQ 0,by simp⟩ ?_;rintro(i:Int) w ⟨h0,h1⟩ h;refine ae (λc=>?_) λc=>?_
 ·have hi:i.toNat<(v.1++v.2).length:=by simp at c;omega
  refine bS h h0 hi ?_;obtain⟨x,hx⟩:∃x,(v.1++v.2)[i.toNat]?=some x:=⟨_,bK hi⟩;refine dP h r i.toNat hx rfl ?_;have ha:=Ip hx;have hii:((i.toNat:Nat):Int)=i:=Ah h0;rw[hii,←hs1]at ha;have ht:vq Tryz.prog y [.lf (.int .i64 x),.lf (.bool (decide (i<(s1.len:Int))))] [.lf .bool] (I i.toNat) (λc=>cond c (I (i.toNat+1)) D):=hy i.toNat (x,decide (i<(s1.len:Int))) ha;refine mT ht h λc w h=>?_;cases c with
  |false=>
   refine ae (λc=>?_) λc=>by cases c
   have h:au _ _ _ _ (D^_):=h;have h:=h.yr (I (lm v).length);exact h.aI
  |true=>
   refine ae (λc=>by cases c) λc=>?_;have h:au _ _ _ _ (I (i.toNat+1)^_):=h;rw[gi];have e:(i+1).toNat=i.toNat+1:=by omega
   refine⟨⟨⟨(by show(0:Int)≤i+1;omega),(by show(i+1).toNat≤_;omega)⟩,?_⟩,(by show _-(i+1).toNat<_;omega)⟩;show au _ _ _ _ (aS r KI (v.1++v.2)^jL b v^af n [.ptr (some ⟨b,0⟩)]^I (i+1).toNat);rw[e];exact h.aI
 ·have hi:i.toNat=(lm v).length:=by rw[yV];simp at c;omega
  rw[hi]at h;have h:=h.take (I (lm v).length);have h:=h.vz D;exact h.aI
theorem Es{x:Int×Bool}(h:(lm v)[i]?=some x):(i<v.1.length∧v.1[i]?=some x.1∧x.2=true)∨(v.1.length≤i∧v.2[i-v.1.length]?=some x.1∧x.2=false):=by
 unfold lm at h;by_cases hi:i<v.1.length
 ·rw[pn (by simpa using hi),kV]at h;obtain⟨y,hy,rfl⟩:=Dn.1 h;exact .inl ⟨hi,hy,rfl⟩
 ·rw[t_ (by simp;omega),kV,fz]at h;obtain⟨y,hy,rfl⟩:=Dn.1 h;exact .inr ⟨by omega,hy,rfl⟩
theorem NN{v:LV}{i:Nat}{x:Int×Bool}(h:(lm v)[i]?=some x)(hn:∀j y,j<i→(lm v)[j]?=some y→y.1≠x.1):bX v x.1=if x.2 then 1 else 2:=by
 rcases Es h with⟨hi,h1,h2⟩|⟨hi,h1,h2⟩
 ·rw[bX,aG (qv.2 ⟨_,h1⟩),h2];rfl
 ·rw[bX,ay,aG (qv.2 ⟨_,h1⟩),h2];rfl;intro hm;obtain⟨j,hj⟩:=qv.1 hm;have hjl:j<v.1.length:=(iy.1 hj).1;refine hn j (x.1,true) (by omega) ?_ rfl;unfold lm;rw[pn (by simpa using hjl),kV,hj];rfl
theorem G7{s:Int}(hn:∀j y,j<(lm v).length→(lm v)[j]?=some y→y.1≠s):bX v s=0:=by
 rw[ma];intro hm;obtain⟨j,hj⟩:=qv.1 hm;have hjl:j<(v.1++v.2).length:=(iy.1 hj).1;exact hn j _ (by rw[yV];rw[gp]at hjl;exact hjl) (Ip hj) rfl
theorem tu(b v)(s:Int)(hl:v.1.length+v.2.length≤4294967296):bu (Mb (some ⟨b,0⟩) s) (jL b v) (λr=>bs (r=bX v s) (jL b v)):=
 Tl λw S R h=>by
  refine aD h λn1 w h=>?_;refine aD h λn2 w h=>?_;refine ar (jd _) (h.le (aJ _)) λf w h=>?_;obtain⟨n,h⟩:=h.lV;obtain⟨hf,h⟩:=h.aP;rw[hf];have h:=(h.take (af n1 [aE s]^af n2 [aE 0])).i_ (p:=∀j y,j<0→(lm v)[j]?=some y→y.1≠s) (λj y hj=>by omega);refine pw (lQ n b v hl) (λi=>bs (∀j y,j<i→(lm v)[j]?=some y→y.1≠s) (af n1 [aE s]^af n2 [aE 0])) (λj=>bs (j=1) (af n1 [aE s]^af n2 [aE (bX v s)])) h ?_ ?_ ?_
  ·rintro i (x:Int×Bool) hx w S R B7 next jump rdy bsy hmid hnext hjump h
   refine hmid h λw h=>?_;have h:=h.take (bs (∀j y,j<i→(lm v)[j]?=some y→y.1≠s) (af n1 [aE s]^af n2 [aE 0]));obtain⟨hno,h⟩:=h.aP;refine ah h rfl ?_;refine ae (λc=>?_) λc=>?_
   ·have c:x.1≠s:=cC;have h:=(h.take (af n1 [aE s]^af n2 [aE 0])).i_ (p:=∀j y,j<i+1→(lm v)[j]?=some y→y.1≠s) (λj y hj hy=>by
     by_cases hji:j=i
     ·rw[hji,hx]at hy;cases hy;exact c
     ·exact hno j y (by omega) hy)
    exact hnext h
   ·have c:x.1=s:=cC;have hp:=NN hx (by rw[c];exact hno);rw[c]at hp;refine ae (λc2=>?_) λc2=>?_
    ·refine bh h rfl λw h=>?_;dsimp only[dE,over]at h;rw[c2,aG rfl]at hp;rw[←hp]at h;have h:=(h.take (af n1 [aE s]^af n2 [aE (bX v s)])).i_ (p:=1=1) rfl;exact hjump 1 (by decide) h
    ·refine bh h rfl λw h=>?_;dsimp only[dE,over]at h;have c2:x.2=false:=c2;rw[c2,ay (by simp)]at hp;rw[←hp]at h;have h:=(h.take (af n1 [aE s]^af n2 [aE (bX v s)])).i_ (p:=1=1) rfl;exact hjump 1 (by decide) h
  ·intro w h;have h:=h.take (bs (∀j y,j<(lm v).length→(lm v)[j]?=some y→y.1≠s) (af n1 [aE s]^af n2 [aE 0]));obtain⟨hno,h⟩:=h.aP;refine bh h rfl λw h=>?_;dsimp only[dE,over]at h;refine ah h rfl ?_;refine aT h λw h=>?_;exact au.aH (G7 hno).symm h.aI
  ·intro j w hj h;have h:=h.take (bs (j=1) (af n1 [aE s]^af n2 [aE (bX v s)]));obtain⟨hj1,h⟩:=h.aP;rw[hj1];refine ah h rfl ?_;refine aT h λw h=>?_;exact au.aH rfl h.aI
theorem EX(v):cd v=match lm v with|x::_=>(x.1,x.2,true)|[]=>(0,false,false):=by
 obtain⟨a,c⟩:=v;cases a with
 |cons x a=>rfl
 |nil=>cases c with
  |cons x c=>rfl
  |nil=>rfl
theorem zq(b v)(hl:v.1.length+v.2.length≤4294967296):bu (XO (some ⟨b,0⟩)) (jL b v) (λr=>bs (r=cd v) (jL b v)):=
 Tl λw S R h=>by
  refine aD h λn1 w h=>?_;refine aD h λn2 w h=>?_;refine aD h λn3 w h=>?_;refine aQ h (λ_=>af n1 [aE 0]^af n2 [bc false]^af n3 [bc false]^jL b v) (λ_=>cd v=(0,false,false)) (λy w hv h=>?_) ?_
  ·refine bh h rfl λw h=>?_;dsimp only[dE,over]at h;refine bh h rfl λw h=>?_;dsimp only[dE,over]at h;refine bh h rfl λw h=>?_;dsimp only[dE,over]at h;refine ah h rfl (ah h rfl (ah h rfl ?_));refine aT h λw h=>?_;exact au.aH hv.symm h.aI
  ·refine ar (jd _) (h.le (aJ _)) λf w h=>?_;obtain⟨n,h⟩:=h.lV;obtain⟨hf,h⟩:=h.aP;rw[hf];have h:=(h.take (af n1 [aE 0]^af n2 [bc false]^af n3 [bc false])).i_ (p:=(0:Nat)=0) rfl;refine pw (lQ n b v hl) (λi=>bs (i=0) (af n1 [aE 0]^af n2 [bc false]^af n3 [bc false])) (λj=>bs (j=1) (af n1 [aE (cd v).1]^af n2 [bc (cd v).2.1]^af n3 [bc (cd v).2.2])) h ?_ ?_ ?_
   ·rintro i (x:Int×Bool) hx w S R B7 next jump rdy bsy hmid hnext hjump h
    refine hmid h λw h=>?_;have h:=h.take (bs (i=0) (af n1 [aE 0]^af n2 [bc false]^af n3 [bc false]));obtain⟨hi,h⟩:=h.aP;have hv:cd v=(x.1,x.2,true):=by
     rw[EX];rw[hi]at hx;cases ha:lm v with
     |nil=>rw[ha]at hx;cases hx
     |cons y l=>rw[ha]at hx;cases hx;rfl
    rw[hv]at hjump;refine bh h rfl λw h=>?_;dsimp only[dE,over]at h;refine bh h rfl λw h=>?_;dsimp only[dE,over]at h;refine bh h rfl λw h=>?_;dsimp only[dE,over]at h;have h:=(h.take (af n1 [aE x.1]^af n2 [bc x.2]^af n3 [bc true])).i_ (p:=1=1) rfl;exact hjump 1 (by decide) h
   ·intro w h;have h:=h.take (bs ((lm v).length=0) (af n1 [aE 0]^af n2 [bc false]^af n3 [bc false]));obtain⟨hno,h⟩:=h.aP;refine⟨?_,h.aI⟩;rw[EX,jE hno]
   ·intro j w hj h;have h:=h.take (bs (j=1) (af n1 [aE (cd v).1]^af n2 [bc (cd v).2.1]^af n3 [bc (cd v).2.2]));obtain⟨hj1,h⟩:=h.aP;rw[hj1];refine ah h rfl (ah h rfl (ah h rfl ?_));refine aT h λw h=>?_;exact au.aH rfl h.aI
theorem jD:bu ZQ bg (λr=>ex λb=>bs (r=some ⟨b,0⟩) (jL b ([],[]))):=
 bC λw S R h=>by
  refine aD h λn1 w h=>?_;exact au.ie n1 (au.aH rfl (((h.nil KI).nil KI).Fc n1 ⟨none,0,0⟩ ⟨none,0,0⟩ ([],[])).br)
theorem qo(b v)(s:Int)(f)(hl:v.1.length+v.2.length≤4294967295):
  bu (L5 (some ⟨b,0⟩) s f) (jL b v) (λr=>bs (r=(kH v s f).1) (jL b (kH v s f).2)):=
 bC λw S R h=>by
  refine ae (λc=>(by cases c)) λc=>?_;refine ae (λc=>?_) λc=>?_
  ·have c:s<0∨8≤s:=cC;rw[kH,aG c];exact au.aH rfl h
  ·have c:¬(s<0∨8≤s):=(by simp at c;omega);rw[kH,ay c];refine ar (tu b v s (by omega)) (h.le (aJ _)) λr w h=>?_;obtain⟨hr,h⟩:=h.aP;refine ae (λc2=>?_) λc2=>?_
   ·rw[aG (by rw[←hr];simpa using c2)];exact au.aH rfl h.br
   ·rw[ay (by rw[←hr];simpa using c2)];obtain⟨s1,s2,h⟩:=h.jL b;refine ae (λc3=>?_) λc3=>?_
    ·rw[aG c3];refine ac (ah h rfl ?_);refine aD h λn w h=>?_;have h:=h.co n KI [s] rfl (by simp);refine dF (s:=s1) (x:=⟨some ⟨n,0⟩,1,1⟩) h rfl (by simp;omega) λs' w _ h=>?_;refine ac (bh h rfl λw h=>?_);dsimp only[dE,over]at h;exact au.aH rfl (h.Fc b s' s2 (v.1++[s],v.2)).br
    ·have c3:f=false:=c3;rw[c3,ay (by simp)];refine ac (ah h rfl ?_);refine aD h λn w h=>?_;have h:=h.co n KI [s] rfl (by simp);refine dF (s:=s2) (x:=⟨some ⟨n,0⟩,1,1⟩) h rfl (by simp;omega) λs' w _ h=>?_;refine ac (bh h rfl λw h=>?_);dsimp only[dE,over]at h;exact au.aH rfl (h.Fc b s1 s' (v.1,v.2++[s])).br
theorem RB(n)(x s:Int):bu (XJ x ⟨n,0⟩) (af n [aE s]) (λr=>bs (r=(x==s)) (af n [aE s])):=
 bC λw S R h=>by
  refine ah h rfl ?_;exact au.aH rfl h
theorem u7(b v)(s:Int)(hl:v.1.length+v.2.length≤4294967296):
  bu (L7 (some ⟨b,0⟩) s) (jL b v) (λr=>bs (r=(jH v s).1) (jL b (jH v s).2)):=
 bC λw S R h=>by
  refine aD h λn w h=>?_;refine ah h rfl ?_;refine ar (tu b v s hl) h λr w h=>?_;obtain⟨hr,h⟩:=h.aP;refine ae (λc=>?_) λc=>?_
  ·have c:bX v s=0:=(by rw[←hr];simpa using c);have hm:=ma.1 c;have e:(jH v s).2=v:=by
    obtain⟨a,d⟩:=v;simp only[jH,dM,eQ,qR]at hm⊢
    congr 1
    ·rw[Aw];intro x hx;exact mE λe=>hm.1 (e▸hx)
    ·rw[Aw];intro x hx;exact mE λe=>hm.2 (e▸hx)
   rw[e,jH,c];exact au.aH (by simp) h.br
  ·have c:bX v s≠0:=(by rw[←hr];simpa using c);refine aM h λw h=>?_;obtain⟨s1,s2,h⟩:=h.jL b;refine ac (ac (ah h rfl (ah h rfl ?_)));have hf:∀x:Int,vq Tryz.prog (.mk (.func fU) [] [V1.enc (.lf (.ptr (some ⟨n,0⟩)))]) [.lf (.int .i64 x)] [.lf .bool] (af n [aE s]) (λr=>bs (r=(x==s)) (af n [aE s])):=λx=>
    (tT.g (f:=fU) (args:=[.lf (.int .i64 x)]) (caps:=[.lf (.ptr (some ⟨n,0⟩))]) (RB n x s)).v
   have eq (l:List Int):l.filter (λx=>!(x==s))=l.filter (λx=>decide (x≠s)):=(by congr 1;funext x;by_cases hx:x=s<;>simp[hx]);refine ar (Iy s1 _ (af n [aE s]) v.1 (λx=>x==s) (by omega) (λx _=>hf x)) h λr1 w h=>?_;refine aN h rfl ?_;refine ar (Iy s2 _ (af n [aE s]) v.2 (λx=>x==s) (by omega) (λx _=>hf x)) h λr2 w h=>?_;refine ac (bh h rfl λw h=>?_);dsimp only[dE,over]at h;refine ac (bh h rfl λw h=>?_);dsimp only[dE,over]at h;rw[eq,eq]at h;exact au.aH (by simp[jH,c]) (h.Fc b r1 r2 (v.1.filter (λx=>decide (x≠s)),v.2.filter (λx=>decide (x≠s)))).br
theorem Rb(h:(cd v).2.2=false):v=([],[]):=by
 obtain⟨a,c⟩:=v;cases a with
 |cons x a=>cases h
 |nil=>cases c with
  |cons x c=>cases h
  |nil=>rfl
theorem x7(h:(cd v).2.2=true):jH v (cd v).1=(true,dM v (cd v).1):=by
 have:=lB h;have h2:bX v (cd v).1≠0:=λe=>ma.1 e this;rw[jH,mE h2]
theorem oq(b v)(hl:v.1.length+v.2.length≤4294967296):
  bu (YW (some ⟨b,0⟩)) (jL b v) (λr=>bs (r=(cy v).1) (jL b (cy v).2)):=
 bC λw S R h=>by
  refine ar (zq b v hl) (h.le (aJ _)) λr w h=>?_;obtain⟨hr,h⟩:=h.aP;rw[hr,cy];refine ae (λc=>?_) λc=>?_
  ·rw[aG c];refine ar (u7 b v _ hl) h λr w h=>?_;rw[x7 c]at h;obtain⟨hr,h⟩:=h.aP;exact au.aH hr h.br
  ·rw[ay (by rw[c];simp)];exact au.aH rfl h.br
theorem rW(b v)(ho:wF v):
  bu (YV (some ⟨b,0⟩)) (jL b v) (λr=>bs (r=(fg v).1) (jL b (fg v).2)):=
 bC λw S R h=>by
  have hl:=ho.GH;refine aK (zq b v (by omega)) (h.le (aJ _)) λw h=>?_;refine ae (λc=>?_) λc=>?_
  ·refine ar (u7 b v _ (by omega)) h λr w h=>?_;rw[x7 c]at h;obtain⟨hr,h⟩:=h.aP;refine ae (λ_=>?_) λc=>by rw[hr]at c;cases c
   have hl2:=(ho.out (cd v).1).GH;refine ar (qo b (dM v (cd v).1) (cd v).1 false (by omega)) h λr w h=>?_;rw[BK ho c]at h;obtain⟨hr,h⟩:=h.aP;exact au.aH (by rw[hr,fg,aG c];rfl) h.br
  ·rw[fg,ay (by rw[c];simp)];exact au.aH rfl h.br
theorem ue(s)(xs:List Int)(x:Int)(hl:xs.length≤4294967296):bu (Qw s x) (bg^aV s KI xs) (λr=>aS r KI (xs.filter (λy=>decide (y≠x)))):=
 bC λw S R h=>by
  have hs:=(h.drop.rd (s:=s)).2;have h:=h.nil KI;have h:au _ _ _ _ (aS ⟨none,0,0⟩ KI []^aV s KI xs):=h.aI;refine cS (λ(y:Sl×Int)=>aS y.1 KI ((xs.take y.2.toNat).filter (λy=>decide (y≠x)))^aV s KI xs) (λ(y:Sl×Int)=>0≤y.2∧y.2.toNat≤xs.length) (λ(y:Sl×Int)=>xs.length-y.2.toNat) h ⟨by simp,by simp⟩ ?_;rintro(⟨r,i⟩:Sl×Int) w ⟨h0,h1⟩ h;dsimp only at h0 h1 h⊢;refine ae (λc=>?_) λc=>?_
  ·have hi:i.toNat<xs.length:=(by simp at c;omega);have hx:=bK hi;have e:(i+1).toNat=i.toNat+1:=(by omega);have hk:=yw (p:=λy=>decide (y≠x)) hx;have h':=h.le (be _ _);rw[gi (n:=i+1)];refine bS h' h0 hi ?_;refine dP h' s i.toNat hx rfl ?_;refine ae (λc2=>?_) λc2=>?_
   ·have c2:xs[i.toNat]≠x:=gK;rw[aG (mE c2)]at hk;refine bS h' h0 hi ?_;refine dP h' s i.toNat hx rfl ?_;refine aD h λn w h=>?_;have h:=h.co n KI [xs[i.toNat]] rfl (by simp);have hb:(List.filter (λy=>decide (y≠x)) (xs.take i.toNat)).length+[xs[i.toNat]].length≤4294967296:=by
     have hfl:=Ac (λy=>decide (y≠x)) (xs.take i.toNat);rw[fO]at hfl;rw[mc];omega
    refine dF (s:=r) (x:=⟨some ⟨n,0⟩,1,1⟩) h rfl hb λs' w _ h=>?_;have h:=h.eN (s:=s') (K:=KI) (ys:=(xs.take (i+1).toNat).filter (λy=>decide (y≠x))) (by rw[e,hk]);exact⟨⟨⟨by show 0≤i+1;omega,by show(i+1).toNat≤_;omega⟩,h.aI⟩,by show _-(i+1).toNat<_;omega⟩
   ·have c2:xs[i.toNat]=x:=gK;rw[ay (by simp[c2]),rn]at hk;have h:=h.eN (s:=r) (K:=KI) (ys:=(xs.take (i+1).toNat).filter (λy=>decide (y≠x))) (by rw[e,hk]);exact⟨⟨⟨by show 0≤i+1;omega,by show(i+1).toNat≤_;omega⟩,h⟩,by show _-(i+1).toNat<_;omega⟩
  ·have hi:i.toNat=xs.length:=(by simp at c;omega);rw[hi,sE]at h;exact h.br
end fL

namespace yR
open _root_.Go.X.Tree
abbrev KN:Ks:=[.int .u64,.int .u64,.int .i64,.int .i64,.int .i64]
theorem B1(x:Int):bu (QF x) bg (λr=>bs (r=false) bg):=
 bC λw0 S R h=>by exact au.aH (by simp) h
def c1(x y:Int):Int:=if x<y then-1 else if x>y then 1 else 0
theorem QV(x y:Int):bu (QA x y) bg (λr=>bs (r=c1 x y) bg):=
 bC λw0 S R h=>by
  unfold c1;refine aK (B1 x) h λw h=>?_;refine aK (B1 y) h λw h=>?_;refine ae (λc=>(by cases c)) λ_=>ae (λc=>(by cases c)) λ_=>?_;refine ae (λc=>?_) λc=>?_
  ·rw[aG (bV c)];exact au.aH rfl h.gm
  rw[ay (bY c)];refine ae (λc=>?_) λc=>?_
  ·rw[aG (bV c)];exact au.aH rfl h.gm
  ·rw[ay (bY c)];exact au.aH rfl h.gm
theorem We(n)(a b:Int):bu (Vc ⟨some ⟨n,0⟩,2,2⟩) (aS ⟨some ⟨n,0⟩,2,2⟩ KI [a,b]) (λr=>bs (r=if a≠0 then a else b) (aS ⟨some ⟨n,0⟩,2,2⟩ KI [a,b])):=
 bC λw0 S R h=>by
  refine cS (λ_:Int=>aS ⟨some ⟨n,0⟩,2,2⟩ KI [a,b]) (λi:Int=>i=0∨(i=1∧a=0)∨(i=2∧a=0∧b=0)) (λi:Int=>(2-i).toNat) h (.inl rfl) ?_;rintro(i:Int) w hi h;refine ae (λc=>?_) λc=>?_
  ·have c:i<2:=cC;rcases hi with rfl|⟨rfl,ha⟩|⟨rfl,_⟩
   ·refine bS h (by omega) (by simp) (dP h ⟨some ⟨n,0⟩,2,2⟩ 0 rfl rfl ?_);refine ae (λc=>?_) λc=>?_
    ·have c:a≠0:=cC;exact au.aH (by rw[aG c]) h
    ·have c:a=0:=cC;exact⟨⟨.inr (.inl ⟨rfl,c⟩),h⟩,by decide⟩
   ·refine bS h (by omega) (by simp) (dP h ⟨some ⟨n,0⟩,2,2⟩ 1 rfl rfl ?_);refine ae (λc=>?_) λc=>?_
    ·exact au.aH (by rw[ay (by simp[ha])]) h
    ·have c:b=0:=cC;exact⟨⟨.inr (.inr ⟨rfl,ha,c⟩),h⟩,by decide⟩
   ·omega
  ·have c:¬i<2:=cC;rcases hi with rfl|⟨rfl,ha⟩|⟨rfl,ha,hb⟩
   ·omega
   ·omega
   ·exact au.aH (by rw[ay (by simp[ha]),hb]) h
def kc(a b:Key):Int:=if lH a b then-1 else if a=b then 0 else 1
theorem M7:kc a b<0↔lH a b=true:=by
 unfold kc;split
 ·rename_i h;simp[h]
 ·rename_i h;split<;>simp[h]
theorem SX:kc a b>0↔lH a b=false∧a≠b:=by
 unfold kc;split
 ·rename_i h;simp[h]
 ·rename_i h;split<;>rename_i h2<;>simp[h,h2]
theorem EG(a b):bu (Qn a b) bg (λr=>bs (r=kc a b) bg):=
 bC λw0 S R h=>by
  refine aD h λn1 w h=>?_;refine aD h λn2 w h=>?_;repeat' (first
   |(refine aM h λw h=>?_)
   |(refine ac ?_)
   |(refine aw h rfl ?_)
   |(refine ah h rfl ?_)
   |(refine aO h ?_)
   |(refine aN h rfl ?_)
   |(refine az h (by rfl) λw h=>?_)
   |(refine aD h λn w h=>?_)
   |(refine aT h λw h=>?_)
   |(refine bh h rfl λw h=>?_;dsimp only[dE,over]at h)
   |(refine ar (QV _ _) h λr w h=>?_;obtain⟨hr,h⟩:=h.aP;(try dsimp only at hr h);try rw[hr]))
  have h:=h.co n KI [c1 a.1 b.1,c1 a.2 b.2] rfl (by simp);refine ar (We n (c1 a.1 b.1) (c1 a.2 b.2)) h λr w h=>?_;obtain⟨hr,h⟩:=h.aP;refine au.aH ?_ h.gm;rw[hr];obtain⟨a1,a2⟩:=a;obtain⟨b1,b2⟩:=b;unfold c1 kc;by_cases h1:a1<b1
  ·simp[lH,h1]
  ·by_cases h2:a1=b1
   ·by_cases h3:a2<b2
    ·simp[lH,h2,h3]
    ·by_cases h4:a2=b2
     ·simp[lH,h2,h4]
     ·have h5:a2>b2:=(by omega);simp[lH,h2,h3,h4,h5]
   ·have h5:a1>b1:=(by omega);simp[lH,h1,h2,h5]
def In(l:List Nd)(i:Int):Prop:=0≤i∧i.toNat<l.length
theorem In.len{i:Int}(h:In l i)(e:l'.length=l.length):In l' i:=⟨h.1,by rw[e];exact h.2⟩
theorem oy{i:Int}(h:In l i):l[i.toNat]?=some (nth l i):=by rw[nth,nJ,jx h.2];rfl
abbrev hh(l:List Nd)(i:Int):Int:=(nth l i).2.2.2.2
section
variable {w0 w:World} {S0 R0:Nat→Prop} {F G:SP} {l:List Nd} {s:Sl} {i:Int}
theorem iQ(h:au w0 S0 R0 w F)[t:Rd s F KN l](hi:In l i)(hk:k (s.ix i.toNat n) w):idx s i n k w:=bS (s:=s) h hi.1 hi.2 hk
theorem Lz{k:Int→WP}(h:au w0 S0 R0 w F)[t:Rd s F KN l](hi:In l i)(hk:k (lt l i) w):ld [.int .i64] ⟨(s.ix i.toNat 5).b,(s.ix i.toNat 5).o+2⟩ k w:=fj h s i.toNat 2 (nth l i) (oy hi) rfl (by decide) rfl hk
theorem Oi{k:Int→WP}(h:au w0 S0 R0 w F)[t:Rd s F KN l](hi:In l i)(hk:k (bT l i) w):ld [.int .i64] ⟨(s.ix i.toNat 5).b,(s.ix i.toNat 5).o+3⟩ k w:=fj h s i.toNat 3 (nth l i) (oy hi) rfl (by decide) rfl hk
theorem rdH{k:Int→WP}(h:au w0 S0 R0 w F)[t:Rd s F KN l](hi:In l i)(hk:k (hh l i) w):ld [.int .i64] ⟨(s.ix i.toNat 5).b,(s.ix i.toNat 5).o+4⟩ k w:=fj h s i.toNat 4 (nth l i) (oy hi) rfl (by decide) rfl hk
theorem Xd{k:Int×Int→WP}(h:au w0 S0 R0 w F)[t:Rd s F KN l](hi:In l i)(hk:k (jJ l i) w):ld [.int .u64,.int .u64] (s.ix i.toNat 5) k w:=fj h s i.toNat 0 (nth l i) (oy hi) rfl (by decide) rfl hk
theorem ckR(h:au w0 S0 R0 w F)[t:Rd s F KN l](hi:In l i)(hk:A w):ct ⟨(s.ix i.toNat 5).b,(s.ix i.toNat 5).o+3⟩ (Ks.mk [.int .i64] (bT l i)) A w:=WK h s i.toNat 3 (nth l i) (oy hi) rfl (by decide) rfl hk
theorem YA{v:Int}(h:au w0 S0 R0 w F)[t:mW s F KN l G](hi:In l i)(hk:∀w',au w0 S0 R0 w' (aS s KN (cX l i v)^G)→A w'):st ⟨(s.ix i.toNat 5).b,(s.ix i.toNat 5).o+2⟩ [aE v] A w:=mG h s i.toNat 2 (nth l i) ((nth l i).1,(nth l i).2.1,v,(nth l i).2.2.2.1,(nth l i).2.2.2.2) (oy hi) rfl (by simp) (by simp) rfl hk
theorem YB{v:Int}(h:au w0 S0 R0 w F)[t:mW s F KN l G](hi:In l i)(hk:∀w',au w0 S0 R0 w' (aS s KN (cY l i v)^G)→A w'):st ⟨(s.ix i.toNat 5).b,(s.ix i.toNat 5).o+3⟩ [aE v] A w:=mG h s i.toNat 3 (nth l i) ((nth l i).1,(nth l i).2.1,(nth l i).2.2.1,v,(nth l i).2.2.2.2) (oy hi) rfl (by simp) (by simp) rfl hk
end
def Lk(l:List Nd)(B:Int):Prop:=∀i,In l i→(lt l i=-1∨In l (lt l i))∧(bT l i=-1∨In l (bT l i))∧0≤hh l i∧hh l i≤B
theorem Lk.mono{B C:Int}(h:Lk l B)(hb:B≤C):Lk l C:=λi hi=>⟨(h i hi).1,(h i hi).2.1,(h i hi).2.2.1,xn (h i hi).2.2.2 hb⟩
theorem vS{i j:Int}(hi:In l i):nth (l.set i.toNat x) j=if j.toNat=i.toNat then x else nth l j:=by
 have hl:=hi.2;by_cases e:i.toNat=j.toNat
 ·simp[nth,nJ,List.getElem?_set,e,show j.toNat<l.length by omega]
 ·simp[nth,nJ,List.getElem?_set,e,mF e]
theorem Lk.set{B C:Int}(h:Lk l B)(hb:B≤C){i:Int}(hi:In l i)(h1:x.2.2.1=-1∨In l x.2.2.1)(h2:x.2.2.2.1=-1∨In l x.2.2.2.1)(h3:0≤x.2.2.2.2∧x.2.2.2.2≤C):Lk (l.set i.toNat x) C:=by
 have hlen:(l.set i.toNat x).length=l.length:=rp;intro j hj;have hj:In l j:=hj.len hlen.symm;simp only[Tree.lt,bT,hh,vS hi];split
 ·exact⟨h1.imp id (·.len hlen),h2.imp id (·.len hlen),h3⟩
 ·have:=h j hj;exact⟨this.1.imp id (·.len hlen),this.2.1.imp id (·.len hlen),this.2.2.1,xn this.2.2.2 hb⟩
theorem sf{B:Int}(h:Lk l B){i:Int}(hi:i=-1∨In l i)(hB:0≤B):0≤Bb l i∧Bb l i≤B:=by
 unfold Bb;split
 ·omega
 ·exact(h i (hi.resolve_left (by assumption))).2.2
theorem Lk.lt{B:Int}(h:Lk l B){i v:Int}(hi:In l i)(hv:v=-1∨In l v):Lk (cX l i v) B:=h.set (gQ _) hi hv (h i hi).2.1 (h i hi).2.2
theorem Lk.rt{B:Int}(h:Lk l B){i v:Int}(hi:In l i)(hv:v=-1∨In l v):Lk (cY l i v) B:=h.set (gQ _) hi (h i hi).1 hv (h i hi).2.2
theorem Lk.Fb{B:Int}(h:Lk l B)(hB:0≤B){i:Int}(hi:In l i):Lk (bk l i) (B+1):=by
 have h1:=sf h (h i hi).1 hB;have h2:=sf h (h i hi).2.1 hB;exact h.set (by omega) hi (h i hi).1 (h i hi).2.1 ⟨by show 0≤max _ _+1;omega,by show max _ _+1≤_;omega⟩
theorem Lk.Jj{B:Int}(h:Lk l B)(hB:0≤B){i:Int}(hi:In l i)(hr:In l (bT l i)):Lk (dm l i).1 (B+2):=by
 have a:=(h.rt hi (h _ hr).1);have b:=a.lt (hr.len (cV _ _ _)) (.inr (hi.len (cV _ _ _)));have c:=b.Fb hB (hi.len (by rw[cT,cV]));have d:=c.Fb (by omega) (hr.len (by rw[gE,cT,cV]));exact d.mono (by omega)
theorem Lk.Jk{B:Int}(h:Lk l B)(hB:0≤B){i:Int}(hi:In l i)(hr:In l (Tree.lt l i)):Lk (dx l i).1 (B+2):=by
 have a:=(h.lt hi (h _ hr).2.1);have b:=a.rt (hr.len (cT _ _ _)) (.inr (hi.len (cT _ _ _)));have c:=b.Fb hB (hi.len (by rw[cV,cT]));have d:=c.Fb (by omega) (hr.len (by rw[gE,cV,cT]));exact d.mono (by omega)
theorem C3{B:Int}(h:Lk l B)(hB:0≤B){i:Int}(hi:In l i)(hl:iM l i>0):In l (Tree.lt l i):=by
 refine(h i hi).1.resolve_left λe=>?_;have:=sf h (h i hi).2.1 hB;rw[iM,e,Bb,aG rfl]at hl;omega
theorem C4{B:Int}(h:Lk l B)(hB:0≤B){i:Int}(hi:In l i)(hl:iM l i<0):In l (bT l i):=by
 refine(h i hi).2.1.resolve_left λe=>?_;have:=sf h (h i hi).1 hB;have e2:Bb l (bT l i)=0:=by rw[e];rfl
 rw[iM,e2]at hl;omega
theorem Lk.even{B:Int}(h:Lk l B)(hB:0≤B){i:Int}(hi:In l i):Lk (fW l i).1 (B+5)∧In l (fW l i).2:=by
 have m:=h.Fb hB hi;have hi1:In (bk l i) i:=hi.len (gE _ _);unfold fW;split
 ·rename_i c;have hl:=C3 m (by omega) hi1 (by omega);split
  ·rename_i c2;have hlr:=C4 m (by omega) hl c2;have t:=m.Jj (by omega) hl hlr;have hlt:=tH (bk l i) (Tree.lt (bk l i) i);have s1:=t.lt (v:=(dm (bk l i) (Tree.lt (bk l i) i)).2) (hi1.len hlt) (.inr (hlr.len hlt));have hl2:In (cX (dm (bk l i) (Tree.lt (bk l i) i)).1 i (dm (bk l i) (Tree.lt (bk l i) i)).2) i:=hi1.len (by rw[cT,hlt]);have hl3:Tree.lt (cX (dm (bk l i) (Tree.lt (bk l i) i)).1 i (dm (bk l i) (Tree.lt (bk l i) i)).2) i=bT (bk l i) (Tree.lt (bk l i) i):=by simp only[Tree.lt,cX,vS (hi1.len hlt),iz];rfl
   have hl4:In (cX (dm (bk l i) (Tree.lt (bk l i) i)).1 i (dm (bk l i) (Tree.lt (bk l i) i)).2) (Tree.lt (cX (dm (bk l i) (Tree.lt (bk l i) i)).1 i (dm (bk l i) (Tree.lt (bk l i) i)).2) i):=(by rw[hl3];exact hlr.len (by rw[cT,hlt]));refine⟨(s1.Jk (by omega) hl2 hl4).mono (by omega),?_⟩;exact hl4.len (by rw[cT,hlt,gE])
  ·exact⟨(m.Jk (by omega) hi1 hl).mono (by omega),hl.len (gE _ _).symm⟩
 ·split
  ·rename_i c;have hl:=C4 m (by omega) hi1 (by omega);split
   ·rename_i c2;have hlr:=C3 m (by omega) hl c2;have t:=m.Jk (by omega) hl hlr;have hlt:=tI (bk l i) (bT (bk l i) i);have s1:=t.rt (v:=(dx (bk l i) (bT (bk l i) i)).2) (hi1.len hlt) (.inr (hlr.len hlt));have hl2:In (cY (dx (bk l i) (bT (bk l i) i)).1 i (dx (bk l i) (bT (bk l i) i)).2) i:=hi1.len (by rw[cV,hlt]);have hl3:bT (cY (dx (bk l i) (bT (bk l i) i)).1 i (dx (bk l i) (bT (bk l i) i)).2) i=Tree.lt (bk l i) (bT (bk l i) i):=by simp only[bT,cY,vS (hi1.len hlt),iz];rfl
    have hl4:In (cY (dx (bk l i) (bT (bk l i) i)).1 i (dx (bk l i) (bT (bk l i) i)).2) (bT (cY (dx (bk l i) (bT (bk l i) i)).1 i (dx (bk l i) (bT (bk l i) i)).2) i):=(by rw[hl3];exact hlr.len (by rw[cV,hlt]));refine⟨(s1.Jj (by omega) hl2 hl4).mono (by omega),?_⟩;exact hl4.len (by rw[cV,hlt,gE])
   ·exact⟨(m.Jj (by omega) hi1 hl).mono (by omega),hl.len (gE _ _).symm⟩
  ·exact⟨m.mono (by omega),hi⟩
section
variable (t:Nat) (ap:bO) (s:Sl) (tp sz rm:Int) (l:List Nd)
theorem vK(i:Int)(hi:i=-1∨In l i):bu (JZ (some ⟨t,0⟩) i) (af t [.ptr ap,aY s,aE tp,aE sz,aE rm]^aS s KN l) (λr=>bs (r=Bb l i) (af t [.ptr ap,aY s,aE tp,aE sz,aE rm]^aS s KN l)):=
 bC λw0 S R h=>by
  refine ae (λc=>?_) λc=>?_
  ·have c:i=-1:=cC;exact au.aH (by rw[c];rfl) h
  ·have c:i≠-1:=cC;have hi:=hi.resolve_left c;refine ac (ah h rfl (iQ h hi (rdH h hi ?_)));exact au.aH (by rw[Bb,ay c]) h
theorem sy(i:Int)(hi:In l i)(B:Int)(hk:Lk l B)(hB:0≤B)(hB2:B<4611686018427387904):bu (Gt (some ⟨t,0⟩) i) (af t [.ptr ap,aY s,aE tp,aE sz,aE rm]^aS s KN l) (λ_=>af t [.ptr ap,aY s,aE tp,aE sz,aE rm]^aS s KN (bk l i)):=
 bC λw0 S R h=>by
  have h1:=sf hk (hk i hi).1 hB;have h2:=sf hk (hk i hi).2.1 hB;refine ac (ah h rfl (iQ h hi (aM h λw h=>ac (ac (Lz h hi (Oi h hi ?_))))));refine aK (vK t ap s tp sz rm l _ (hk i hi).1) h λw h=>?_;refine ckR h hi ?_;refine aK (vK t ap s tp sz rm l _ (hk i hi).2.1) h λw h=>?_;have e:i64.wrap ((if Bb l (bT l i)>Bb l (Tree.lt l i)then Bb l (bT l i)else Bb l (Tree.lt l i))+(1:Int))=max (Bb l (Tree.lt l i)) (Bb l (bT l i))+1:=by rw[wi (by split<;>omega) (by split<;>omega)];split<;>omega
  rw[e];refine ac ?_;refine mG h s i.toNat 4 (nth l i) ((nth l i).1,(nth l i).2.1,(nth l i).2.2.1,(nth l i).2.2.2.1,max (Bb l (Tree.lt l i)) (Bb l (bT l i))+1) (oy hi) rfl (by simp) (by simp) rfl λw h=>?_;have h:=h.eN (s:=s) (K:=KN) (ys:=bk l i) rfl;exact h.aI
theorem zE(i:Int)(hi:In l i)(B:Int)(hk:Lk l B)(hB:0≤B)(hB2:B<4611686018427387904):bu (Mk (some ⟨t,0⟩) i) (af t [.ptr ap,aY s,aE tp,aE sz,aE rm]^aS s KN l) (λr=>bs (r=iM l i) (af t [.ptr ap,aY s,aE tp,aE sz,aE rm]^aS s KN l)):=
 bC λw0 S R h=>by
  have h1:=sf hk (hk i hi).1 hB;have h2:=sf hk (hk i hi).2.1 hB;refine aM h λw h=>ac (ac (ah h rfl (ah h rfl (iQ h hi (iQ h hi (Lz h hi (Oi h hi ?_)))))));refine aK (vK t ap s tp sz rm l _ (hk i hi).1) h λw h=>?_;refine ckR h hi (aN h rfl ?_);refine aK (vK t ap s tp sz rm l _ (hk i hi).2.1) h λw h=>?_;rw[gi];exact au.aH rfl h.aI
theorem xC(i:Int)(hi:In l i)(hr:In l (bT l i))(B:Int)(hk:Lk l B)(hB:0≤B)(hB2:B+1<4611686018427387904):bu (Ml (some ⟨t,0⟩) i) (af t [.ptr ap,aY s,aE tp,aE sz,aE rm]^aS s KN l) (λr=>bs (r=(dm l i).2) (af t [.ptr ap,aY s,aE tp,aE sz,aE rm]^aS s KN ((dm l i).1))):=
 bC λw0 S R h=>by
  refine ac (ah h rfl (iQ h hi (Oi h hi ?_)));refine aM h λw h=>ac (ac (ac (ah h rfl (ah h rfl (ah h rfl (iQ h hr (Lz h hr ?_)))))));refine iQ h hi (YB h hi λw h=>?_);have a:=(hk.rt hi (hk _ hr).1);have hr1:=hr.len (cV l i (Tree.lt l (bT l i)));refine iQ h hr1 (YA h hr1 λw h=>?_);have b:=a.lt hr1 (.inr (hi.len (cV l i (Tree.lt l (bT l i)))));have hi2:In (cX (cY l i (Tree.lt l (bT l i))) (bT l i) i) i:=hi.len (by rw[cT,cV]);refine ar (sy t ap s tp sz rm _ i hi2 B b hB (by omega)) h λ_ w h=>?_;have c:=b.Fb hB hi2;refine ar (sy t ap s tp sz rm _ (bT l i) (hr.len (by rw[gE,cT,cV])) (B+1) c (by omega) (by omega)) h λ_ w h=>?_;have h:=h.eN (s:=s) (K:=KN) (ys:=(dm l i).1) rfl;exact au.aH rfl h.aI
theorem xE(i:Int)(hi:In l i)(hr:In l (Tree.lt l i))(B:Int)(hk:Lk l B)(hB:0≤B)(hB2:B+1<4611686018427387904):bu (Mm (some ⟨t,0⟩) i) (af t [.ptr ap,aY s,aE tp,aE sz,aE rm]^aS s KN l) (λr=>bs (r=(dx l i).2) (af t [.ptr ap,aY s,aE tp,aE sz,aE rm]^aS s KN ((dx l i).1))):=
 bC λw0 S R h=>by
  refine ac (ah h rfl (iQ h hi (Lz h hi ?_)));refine aM h λw h=>ac (ac (ac (ah h rfl (ah h rfl (ah h rfl (iQ h hr (Oi h hr ?_)))))));refine iQ h hi (YA h hi λw h=>?_);have a:=(hk.lt hi (hk _ hr).2.1);have hr1:=hr.len (cT l i (bT l (Tree.lt l i)));refine iQ h hr1 (YB h hr1 λw h=>?_);have b:=a.rt hr1 (.inr (hi.len (cT l i (bT l (Tree.lt l i)))));have hi2:In (cY (cX l i (bT l (Tree.lt l i))) (Tree.lt l i) i) i:=hi.len (by rw[cV,cT]);refine ar (sy t ap s tp sz rm _ i hi2 B b hB (by omega)) h λ_ w h=>?_;have c:=b.Fb hB hi2;refine ar (sy t ap s tp sz rm _ (Tree.lt l i) (hr.len (by rw[gE,cV,cT])) (B+1) c (by omega) (by omega)) h λ_ w h=>?_;have h:=h.eN (s:=s) (K:=KN) (ys:=(dx l i).1) rfl;exact au.aH rfl h.aI
theorem vB(i:Int)(hi:In l i)(B:Int)(hk:Lk l B)(hB:0≤B)(hB2:B+5<4611686018427387904):bu (JW (some ⟨t,0⟩) i) (af t [.ptr ap,aY s,aE tp,aE sz,aE rm]^aS s KN l) (λr=>bs (r=(fW l i).2) (af t [.ptr ap,aY s,aE tp,aE sz,aE rm]^aS s KN ((fW l i).1))):=
 bC λw0 S R h=>by
  refine ar (sy t ap s tp sz rm l i hi B hk hB (by omega)) h λ_ w h=>?_;have m:=hk.Fb hB hi;have hi1:In (bk l i) i:=hi.len (gE _ _);refine aK (zE t ap s tp sz rm (bk l i) i hi1 (B+1) m (by omega) (by omega)) h λw h=>?_;have hdef:fW l i=if iM (bk l i) i>1 then
    dx (if iM (bk l i) (Tree.lt (bk l i) i)<0 then cX (dm (bk l i) (Tree.lt (bk l i) i)).1 i (dm (bk l i) (Tree.lt (bk l i) i)).2 else bk l i) i
   else if iM (bk l i) i< -1 then
    dm (if iM (bk l i) (bT (bk l i) i)>0 then cY (dx (bk l i) (bT (bk l i) i)).1 i (dx (bk l i) (bT (bk l i) i)).2 else bk l i) i
   else(bk l i,i):=rfl
  rw[hdef];clear hdef;generalize bk l i=l at*
  refine ae (λc=>?_) λc=>?_
  ·have c:iM l i>1:=bV c;rw[aG c];have hl:=C3 m (by omega) hi1 (by omega);refine ac (ah h rfl (iQ h hi1 (Lz h hi1 ?_)));refine aK (zE t ap s tp sz rm l _ hl (B+1) m (by omega) (by omega)) h λw h=>?_;refine ae (λc2=>?_) λc2=>?_
   ·have c2:iM l (Tree.lt l i)<0:=bV c2;rw[aG c2];have hlr:=C4 m (by omega) hl c2;have tt:=m.Jj (by omega) hl hlr;have hlt:=tH l (Tree.lt l i);refine aM h λw h=>ac (ac (ah h rfl (ah h rfl (iQ h hi1 (Lz h hi1 ?_)))));refine aK (xC t ap s tp sz rm l _ hl hlr (B+1) m (by omega) (by omega)) h λw h=>?_;have hr2:(dm l (Tree.lt l i)).2=bT l (Tree.lt l i):=rfl;have hi2:In (dm l (Tree.lt l i)).1 i:=hi1.len hlt;refine aN h rfl (iQ h hi2 (YA h hi2 λw h=>?_));have s1:=tt.lt (v:=(dm l (Tree.lt l i)).2) hi2 (.inr (hlr.len hlt));have hi3:In (cX (dm l (Tree.lt l i)).1 i (dm l (Tree.lt l i)).2) i:=hi2.len (cT _ _ _);have hl3:Tree.lt (cX (dm l (Tree.lt l i)).1 i (dm l (Tree.lt l i)).2) i=bT l (Tree.lt l i):=(by simp only[Tree.lt,cX,vS hi2,iz];rfl);have hl4:In (cX (dm l (Tree.lt l i)).1 i (dm l (Tree.lt l i)).2) (Tree.lt (cX (dm l (Tree.lt l i)).1 i (dm l (Tree.lt l i)).2) i):=(by rw[hl3];exact hlr.len (by rw[cT,hlt]));generalize cX (dm l (Tree.lt l i)).1 i (dm l (Tree.lt l i)).2=l2 at*
    refine aK (xE t ap s tp sz rm l2 i hi3 hl4 _ s1 (by omega) (by omega)) h λw h=>?_;exact au.aH rfl h.aI
   ·have c2:¬iM l (Tree.lt l i)<0:=bY c2;rw[ay c2];refine aK (xE t ap s tp sz rm l i hi1 hl _ m (by omega) (by omega)) h λw h=>?_;exact au.aH rfl h.aI
  have c:¬iM l i>1:=bY c;rw[ay c];refine ae (λc=>?_) λc=>?_
  ·have c:iM l i< -1:=bV c;rw[aG c];have hl:=C4 m (by omega) hi1 (by omega);refine ac (ah h rfl (iQ h hi1 (Oi h hi1 ?_)));refine aK (zE t ap s tp sz rm l _ hl (B+1) m (by omega) (by omega)) h λw h=>?_;refine ae (λc2=>?_) λc2=>?_
   ·have c2:iM l (bT l i)>0:=bV c2;rw[aG c2];have hlr:=C3 m (by omega) hl c2;have tt:=m.Jk (by omega) hl hlr;have hlt:=tI l (bT l i);refine aM h λw h=>ac (ac (ah h rfl (ah h rfl (iQ h hi1 (Oi h hi1 ?_)))));refine aK (xE t ap s tp sz rm l _ hl hlr (B+1) m (by omega) (by omega)) h λw h=>?_;have hi2:In (dx l (bT l i)).1 i:=hi1.len hlt;refine aN h rfl (iQ h hi2 (YB h hi2 λw h=>?_));have s1:=tt.rt (v:=(dx l (bT l i)).2) hi2 (.inr (hlr.len hlt));have hi3:In (cY (dx l (bT l i)).1 i (dx l (bT l i)).2) i:=hi2.len (cV _ _ _);have hl3:bT (cY (dx l (bT l i)).1 i (dx l (bT l i)).2) i=Tree.lt l (bT l i):=(by simp only[bT,cY,vS hi2,iz];rfl);have hl4:In (cY (dx l (bT l i)).1 i (dx l (bT l i)).2) (bT (cY (dx l (bT l i)).1 i (dx l (bT l i)).2) i):=(by rw[hl3];exact hlr.len (by rw[cV,hlt]));generalize cY (dx l (bT l i)).1 i (dx l (bT l i)).2=l2 at*
    refine aK (xC t ap s tp sz rm l2 i hi3 hl4 _ s1 (by omega) (by omega)) h λw h=>?_;exact au.aH rfl h.aI
   ·have c2:¬iM l (bT l i)>0:=bY c2;rw[ay c2];refine aK (xC t ap s tp sz rm l i hi1 hl _ m (by omega) (by omega)) h λw h=>?_;exact au.aH rfl h.aI
  have c:¬iM l i< -1:=bY c;rw[ay c];exact au.aH rfl h.aI
end
theorem FX{ws:List Int}{n:Nat}{x:Int}(h:ws[n]?=some x):(ws.take (n+1)).reverse=x::(ws.take n).reverse:=by rw[lC,h];simp
theorem MX(t:Nat)(ap:bO)(s:Sl)(tp sz rm:Int)(l:List Nd)(o:Sl)(ws:List Int)(was i:Int)(hw:∀x∈ws,In l x)(hi:In l i)(B:Int)(hk:Lk l B)(hB:0≤B)(hB2:B+5*ws.length<4611686018427387904)(hll:l.length<4611686018427387904):
  bu (T7 (some ⟨t,0⟩) o was i) ((af t [.ptr ap,aY s,aE tp,aE sz,aE rm]^aS s KN l)^aV o KI ws)
   (λ_=>af t [.ptr ap,aY s,aE ((iK l was i ws.reverse).2+1),aE sz,aE rm]^aS s KN (iK l was i ws.reverse).1):=
 bC λw0 S R h=>by
  have h:au w0 S R w0 (aV o KI ws^(af t [.ptr ap,aY s,aE tp,aE sz,aE rm]^aS s KN l)):=h.le (be _ _);have hlen:=(h.rd (s:=o)).2;have e0:i64.wrap (((o.len:Nat):Int)-1)=(ws.length:Int)-1:=by rw[hlen];exact gi
  rw[e0];refine fY (λ(_:Bj) (x:List Nd)=>aV o KI ws^(af t [.ptr ap,aY s,aE tp,aE sz,aE rm]^aS s KN x)) (λ(y:Bj) (x:List Nd)=>(-1≤y.2.2∧y.2.2<(ws.length:Int))∧x.length=l.length∧In x y.2.1∧Lk x (B+5*((ws.length:Int)-1-y.2.2))∧iK l was i ws.reverse=iK x y.1 y.2.1 (ws.take (y.2.2+1).toNat).reverse) (λ(y:Bj) _=>(y.2.2+1).toNat) l h ?_ ?_
  ·refine⟨⟨by show-1≤(ws.length:Int)-1;omega,by show(ws.length:Int)-1<_;omega⟩,rfl,hi,?_,?_⟩
   ·exact hk.mono (by show B≤B+5*((ws.length:Int)-1-((ws.length:Int)-1));omega)
   ·show iK l was i ws.reverse=iK l was i (ws.take (((ws.length:Int)-1)+1).toNat).reverse;rw[jZ (by omega)]
  rintro K (⟨wa,j,n⟩:Bj) x w ⟨⟨n0,n1⟩,hx,hj,hkx,he⟩ h hK;dsimp only at n0 n1 hx hj hkx he hK⊢;refine ae (λc=>?_) λc=>?_
  ·have c:n≥0:=bV c;have hn:n.toNat<ws.length:=(by omega);obtain⟨up,hup⟩:∃p,ws[n.toNat]?=some p:=⟨_,bK hn⟩;have hu:In x up:=(hw up (gI hup)).len hx;have en:(n+1).toNat=n.toNat+1:=(by omega);rw[en,FX hup,iK]at he;refine bS (s:=o) h c hn (dP h o n.toNat hup rfl ?_);have en1:i64.wrap (n-1)=n-1:=gi;have en2:(n-1+1).toNat=n.toNat:=(by omega);refine aQ h (λ_=>aV o KI ws^(af t [.ptr ap,aY s,aE tp,aE sz,aE rm]^aS s KN x)) (λy:Bool=>y=decide (Tree.lt x up=wa∧(wa≠-1∨lH (jJ x j) (jJ x up)=true))) (λ(y:Bool) w hy h=>?_) ?_
   ·rw[hy];refine ae (λc2=>?_) λc2=>?_
    ·have c2:=bV c2;rw[aG c2]at he;refine ac (ah h rfl (iQ (s:=s) h hu (YA h hu λw h=>?_)));have k1:=hkx.lt hu (.inr hj);have hu1:In (cX x up j) up:=hu.len (cT _ _ _);have k2:=k1.even (by omega) hu1;refine ar (vB t ap s tp sz rm (cX x up j) up hu1 _ k1 (by omega) (by omega)) h λr w h=>?_;obtain⟨hr,h⟩:=h.aP;have hle:=qc (cX x up j) up;rw[cT]at hle;generalize fW (cX x up j) up=q at*
     rw[hr,en1];refine hK (up,q.2,n-1) q.1 w ⟨⟨by show-1≤n-1;omega,by show n-1<(ws.length:Int);omega⟩,hle.trans hx,k2.2.len (by rw[hle,cT]),k2.1.mono (by show _≤B+5*((ws.length:Int)-1-(n-1));omega),?_⟩ h.aI (by show(n-1+1).toNat<_;omega);show _=iK q.1 up q.2 (ws.take (n-1+1).toNat).reverse;rw[en2];exact he
    ·have c2:=bY c2;rw[ay c2]at he;refine ac (ah h rfl (iQ (s:=s) h hu (YB h hu λw h=>?_)));have k1:=hkx.rt hu (.inr hj);have hu1:In (cY x up j) up:=hu.len (cV _ _ _);have k2:=k1.even (by omega) hu1;refine ar (vB t ap s tp sz rm (cY x up j) up hu1 _ k1 (by omega) (by omega)) h λr w h=>?_;obtain⟨hr,h⟩:=h.aP;have hle:=qc (cY x up j) up;rw[cV]at hle;generalize fW (cY x up j) up=q at*
     rw[hr,en1];refine hK (up,q.2,n-1) q.1 w ⟨⟨by show-1≤n-1;omega,by show n-1<(ws.length:Int);omega⟩,hle.trans hx,k2.2.len (by rw[hle,cV]),k2.1.mono (by show _≤B+5*((ws.length:Int)-1-(n-1));omega),?_⟩ h.aI (by show(n-1+1).toNat<_;omega);show _=iK q.1 up q.2 (ws.take (n-1+1).toNat).reverse;rw[en2];exact he
   ·refine aM h λw h=>ac (ah h rfl (iQ (s:=s) h hu (Lz h hu ?_)));refine ae (λc2=>?_) λc2=>?_
    ·have c2:Tree.lt x up=wa:=gK;refine ae (λc3=>?_) λc3=>?_
     ·have c3:wa≠-1:=(by simpa using c3);exact⟨by rw[jG];simp[c2,c3],h⟩
     ·have c3:wa=-1:=(by simpa using c3);refine ac (ac (ah h rfl (ah h rfl (iQ (s:=s) h hj (iQ (s:=s) h hu (Xd h hj (Xd h hu ?_)))))));refine ar (EG (jJ x j) (jJ x up)) h λr w h=>?_;obtain⟨hr,h⟩:=h.aP;refine⟨?_,h.aI⟩;rw[jG,iZ,iZ,hr,M7];simp[c2,c3]
    ·have c2:Tree.lt x up≠wa:=gK;exact⟨by rw[jG];simp[c2],h⟩
  ·have c:¬n≥0:=bY c;have en:(n+1).toNat=0:=(by omega);rw[en,DF,List.reverse_nil,iK]at he;rw[he];have hr1:i64.wrap (j+1)=j+1:=wi (by have:=hj.1;omega) (by have:=hj.2;omega);rw[hr1];refine ac (bh h rfl λw h=>?_);dsimp only[dE,over]at h;exact h.aI
theorem oq(t:Nat)(ap:bO)(s:Sl)(tp sz rm:Int)(l:List Nd)(o:Sl)(ws:List Int)(was i:Int)(hw:∀x∈ws,In l x)(hi:i=-1∨In l i)(B:Int)(hk:Lk l B)(hB:0≤B)(hB2:B+5*ws.length<4611686018427387904)(hll:l.length<4611686018427387904):
  bu (UI (some ⟨t,0⟩) o was i) ((af t [.ptr ap,aY s,aE tp,aE sz,aE rm]^aS s KN l)^aV o KI ws)
   (λ_=>af t [.ptr ap,aY s,aE ((lS l was i ws.reverse).2+1),aE sz,aE rm]^aS s KN (lS l was i ws.reverse).1):=
 bC λw0 S R h=>by
  have h:au w0 S R w0 (aV o KI ws^(af t [.ptr ap,aY s,aE tp,aE sz,aE rm]^aS s KN l)):=h.le (be _ _);have hlen:=(h.rd (s:=o)).2;have e0:i64.wrap (((o.len:Nat):Int)-1)=(ws.length:Int)-1:=by rw[hlen];exact gi
  rw[e0];refine fY (λ(_:Bj) (x:List Nd)=>aV o KI ws^(af t [.ptr ap,aY s,aE tp,aE sz,aE rm]^aS s KN x)) (λ(y:Bj) (x:List Nd)=>(-1≤y.2.2∧y.2.2<(ws.length:Int))∧x.length=l.length∧(y.2.1=-1∨In x y.2.1)∧Lk x (B+5*((ws.length:Int)-1-y.2.2))∧lS l was i ws.reverse=lS x y.1 y.2.1 (ws.take (y.2.2+1).toNat).reverse) (λ(y:Bj) _=>(y.2.2+1).toNat) l h ?_ ?_
  ·refine⟨⟨by show-1≤(ws.length:Int)-1;omega,by show(ws.length:Int)-1<_;omega⟩,rfl,hi,?_,?_⟩
   ·exact hk.mono (by show B≤B+5*((ws.length:Int)-1-((ws.length:Int)-1));omega)
   ·show lS l was i ws.reverse=lS l was i (ws.take (((ws.length:Int)-1)+1).toNat).reverse;rw[jZ (by omega)]
  rintro K (⟨wa,j,n⟩:Bj) x w ⟨⟨n0,n1⟩,hx,hj,hkx,he⟩ h hK;dsimp only at n0 n1 hx hj hkx he hK⊢;refine ae (λc=>?_) λc=>?_
  ·have c:n≥0:=bV c;have hn:n.toNat<ws.length:=(by omega);obtain⟨up,hup⟩:∃p,ws[n.toNat]?=some p:=⟨_,bK hn⟩;have hu:In x up:=(hw up (gI hup)).len hx;have en:(n+1).toNat=n.toNat+1:=(by omega);rw[en,FX hup,lS]at he;refine bS (s:=o) h c hn (dP h o n.toNat hup rfl ?_);have en1:i64.wrap (n-1)=n-1:=gi;have en2:(n-1+1).toNat=n.toNat:=(by omega);refine ac (ah h rfl (iQ (s:=s) h hu (Lz h hu ?_)));refine ae (λc2=>?_) λc2=>?_
   ·have c2:Tree.lt x up=wa:=gK;rw[aG c2]at he;refine ac (ah h rfl (iQ (s:=s) h hu (YA h hu λw h=>?_)));have k1:=hkx.lt hu hj;have hu1:In (cX x up j) up:=hu.len (cT _ _ _);have k2:=k1.even (by omega) hu1;refine ar (vB t ap s tp sz rm (cX x up j) up hu1 _ k1 (by omega) (by omega)) h λr w h=>?_;obtain⟨hr,h⟩:=h.aP;have hle:=qc (cX x up j) up;rw[cT]at hle;generalize fW (cX x up j) up=q at*
    rw[hr,en1];refine hK (up,q.2,n-1) q.1 w ⟨⟨by show-1≤n-1;omega,by show n-1<(ws.length:Int);omega⟩,hle.trans hx,.inr (k2.2.len (by rw[hle,cT])),k2.1.mono (by show _≤B+5*((ws.length:Int)-1-(n-1));omega),?_⟩ h.aI (by show(n-1+1).toNat<_;omega);show _=lS q.1 up q.2 (ws.take (n-1+1).toNat).reverse;rw[en2];exact he
   ·have c2:Tree.lt x up≠wa:=gK;rw[ay c2]at he;refine ac (ah h rfl (iQ (s:=s) h hu (YB h hu λw h=>?_)));have k1:=hkx.rt hu hj;have hu1:In (cY x up j) up:=hu.len (cV _ _ _);have k2:=k1.even (by omega) hu1;refine ar (vB t ap s tp sz rm (cY x up j) up hu1 _ k1 (by omega) (by omega)) h λr w h=>?_;obtain⟨hr,h⟩:=h.aP;have hle:=qc (cY x up j) up;rw[cV]at hle;generalize fW (cY x up j) up=q at*
    rw[hr,en1];refine hK (up,q.2,n-1) q.1 w ⟨⟨by show-1≤n-1;omega,by show n-1<(ws.length:Int);omega⟩,hle.trans hx,.inr (k2.2.len (by rw[hle,cV])),k2.1.mono (by show _≤B+5*((ws.length:Int)-1-(n-1));omega),?_⟩ h.aI (by show(n-1+1).toNat<_;omega);show _=lS q.1 up q.2 (ws.take (n-1+1).toNat).reverse;rw[en2];exact he
  ·have c:¬n≥0:=bY c;have en:(n+1).toNat=0:=(by omega);rw[en,DF,List.reverse_nil,lS]at he;rw[he];have hr1:i64.wrap (j+1)=j+1:=by
    rcases hj with hj|hj
    ·exact gi
    ·exact wi (by have:=hj.1;omega) (by have:=hj.2;omega)
   rw[hr1];refine ac (bh h rfl λw h=>?_);dsimp only[dE,over]at h;exact h.aI
end yR

namespace BI
open _root_.Go.X.Tree yR
theorem KE(n:Int):bu (Z4 n) bg (λr=>ex λa:Nat=>bs (r=some ⟨a,0⟩) (af a [aY ⟨none,0,0⟩,aY ⟨none,0,0⟩,aE (min (max n 0) 4096)])):=
 bC λw0 S R h=>by
  have e:(if(4096:Int)<(if(0:Int)>n then(0:Int)else n)then(4096:Int)else(if(0:Int)>n then(0:Int)else n))=min (max n 0) 4096:=by(repeat' split)<;>omega
  rw[e];refine aD h λa w h=>?_;exact au.ie a (au.aH rfl h.aI)
section
variable (a:Nat) (s1 s2:Sl) (us:List Bool) (fr:List Int) (rm:Int)
theorem Q9(i:Int)(f:List Int)(hf:fr=f++[i])(hi:0≤i∧i.toNat<us.length)(hl:fr.length<4611686018427387904):bu (Qf (some ⟨a,0⟩)) (af a [aY s1,aY s2,aE rm]^aS s1 KB us^aS s2 KI fr)
  (λr=>ex λs2':Sl=>bs (r=(i,0)) (af a [aY s1,aY s2',aE rm]^aS s1 KB (us.set i.toNat true)^aS s2' KI f)):=
 bC λw0 S R h=>by
  have h:au w0 S R w0 (aS s1 KB us^aS s2 KI fr^af a [aY s1,aY s2,aE rm]):=h.aI;have hl2:=(h.drop.rd (s:=s2)).2;have hfl:fr.length=f.length+1:=by rw[hf];simp
  refine ae (λc=>(by cases c)) λ_=>ac (ah h rfl (ae (λc=>?_) λc=>?_))
  ·have e:i64.wrap (((s2.len:Nat):Int)-1)=(f.length:Int):=(by rw[hl2,hfl];rw[gi];omega);have hat:fr[((f.length:Nat):Int).toNat]?=some i:=(by rw[hf];simp);dsimp only;rw[e];refine ac (ah h rfl (bS (s:=s2) h (by omega) (by omega) (dP h s2 ((f.length:Nat):Int).toNat hat rfl (ac (ah h rfl ?_)))));have hc:=pi (s:=s2) h;refine wE (s:=s2) h 0 f.length s2.cap rfl rfl rfl rfl (by omega) (by omega) (by omega) (by omega) λs' hs1 hs2 h=>?_;have e2:(fr.take f.length).drop 0=f:=(by rw[hf];simp);have h:=h.eN (s:=s') (K:=KI) e2;refine ac (bh h rfl λw h=>?_);dsimp only[dE,over]at h;refine ac (ah h rfl ?_);refine bS (s:=s1) h hi.1 hi.2 ?_;refine mG h s1 i.toNat 0 us[i.toNat] true (bK hi.2) rfl (by simp) (by simp) rfl λw h=>?_;exact au.ie s' (au.aH rfl h.aI)
  ·have c:¬((s2.len:Nat):Int)>0:=bY c;omega
theorem Q8(hl:(us.length:Int)<rm)(hr:rm≤4096):bu (Qf (some ⟨a,0⟩)) (af a [aY s1,aY s2,aE rm]^aS s1 KB us^aS s2 KI [])
  (λr=>ex λs1':Sl=>bs (r=((us.length:Int),0)) (af a [aY s1',aY s2,aE rm]^aS s1' KB (us++[true])^aS s2 KI [])):=
 bC λw0 S R h=>by
  have h:au w0 S R w0 (aS s1 KB us^aS s2 KI []^af a [aY s1,aY s2,aE rm]):=h.aI;have hl2:=(h.drop.rd (s:=s2)).2;have hl1:=(h.rd (s:=s1)).2;refine ae (λc=>(by cases c)) λ_=>ac (ah h rfl (ae (λc=>?_) λ_=>?_))
  ·have c:((s2.len:Nat):Int)>0:=bV c;have:s2.len=0:=hl2;omega
  refine aM h λw h=>ac (ac (ah h rfl (ah h rfl (ae (λc=>?_) λ_=>?_))))
  ·have c:((s1.len:Nat):Int)≥rm:=bV c;omega
  refine ac (ah h rfl ?_);refine aD h λn w h=>?_;have h:=h.co n KB [true] rfl (by simp);refine dF (s:=s1) (x:=⟨some ⟨n,0⟩,1,1⟩) h rfl (by simp;omega) λs' w hs' h=>?_;refine ac (bh h rfl λw h=>?_);dsimp only[dE,over]at h;refine ac (ah h rfl ?_);have e:i64.wrap (((s'.len:Nat):Int)-1)=(us.length:Int):=by
   have:s'.len=us.length+1:=(by simpa using hs');rw[this,gi];omega
  rw[e];exact au.ie s' (au.aH rfl h.aI)
theorem CX(i:Int)(hi:0≤i∧i.toNat<us.length):bu (U_ (some ⟨a,0⟩) i) (af a [aY s1,aY s2,aE rm]^aS s1 KB us) (λr=>bs (us[i.toNat]?=some r) (af a [aY s1,aY s2,aE rm]^aS s1 KB us)):=
 bC λw0 S R h=>by
  have hl1:=(h.drop.rd (s:=s1)).2;refine ae (λ_=>?_) λc=>?_
  ·refine ac (ah h rfl (ae (λ_=>?_) λc=>?_))
   ·refine ac (ah h rfl (bS (s:=s1) h hi.1 hi.2 (dP h s1 i.toNat (bK hi.2) rfl ?_)));exact au.aH (bK hi.2) h
   ·have c:¬i<((s1.len:Nat):Int):=bY c;omega
  ·simp at c;omega
theorem MP(i:Int)(hi:0≤i∧i.toNat<us.length)(hu:us[i.toNat]?=some true)(hr:(us.length:Int)≤rm)(hl:fr.length<4294967295):bu (UJ (some ⟨a,0⟩) i) (af a [aY s1,aY s2,aE rm]^aS s1 KB us^aS s2 KI fr)
  (λr=>ex λs2':Sl=>bs (r=0) (af a [aY s1,aY s2',aE rm]^aS s1 KB (us.set i.toNat false)^aS s2' KI (fr++[i]))):=
 bC λw0 S R h=>by
  refine ae (λc=>(by cases c)) λ_=>?_;refine aQ h (λ_=>af a [aY s1,aY s2,aE rm]^aS s1 KB us^aS s2 KI fr) (λy:Bool=>y=false) (λ(y:Bool) w hy h=>?_) ?_
  ·rw[hy];refine ae (λc=>(by cases c)) λ_=>?_;refine ar (CX a s1 s2 us rm i hi) h λr w h=>?_;obtain⟨hr,h⟩:=h.aP;rw[hu]at hr;have hr:r=true:=by cases hr;rfl
   rw[hr];refine ae (λc=>(by cases c)) λ_=>?_;refine ac (ah h rfl (bS (s:=s1) h hi.1 hi.2 ?_));refine mG h s1 i.toNat 0 us[i.toNat] false (bK hi.2) rfl (by simp) (by simp) rfl λw h=>?_;refine ac (ah h rfl ?_);refine aD h λn w h=>?_;have h:=h.co n KI [i] rfl (by simp);refine dF (s:=s2) (x:=⟨some ⟨n,0⟩,1,1⟩) h rfl (by simp;omega) λs' w hs' h=>?_;refine ac (bh h rfl λw h=>?_);dsimp only[dE,over]at h;exact au.ie s' (au.aH rfl h.aI)
  ·refine ae (λc=>?_) λ_=>?_
   ·have c:i<0:=bV c;omega
   ·refine ac (ah h rfl ⟨?_,h⟩);exact nO (by omega)
end
def sP:Tr→List Int
 |.e=>[]
 |.n _ i _ _=>[(i:Int)]
def iw(p:Tr×List jN):List Int:=(g_ p.2).reverse++sP p.1
def kN:Tr→List Int
 |.e=>[]
 |.n l i _ _=>(i:Int)::kN l
theorem oC(h:iH l (.n L i k R)):In l (i:Int)∧nth l (i:Int)=(k.1,k.2,L.rt,R.rt,max L.ht R.ht+1):=
 ⟨⟨by omega,by rw[eX];exact(iy.1 h.1).1⟩,gG h.1⟩
theorem yu:∀t:Tr,t.ht≤t.ino.length
 |.e=>by simp[Tr.ht,Tr.ino]
 |.n l i k r=>by
  have h1:=yu l;have h2:=yu r;simp only[Tr.ht,Tr.ino,gp,gg];omega
def ug:Tr→Nat
 |.e=>0
 |.n l _ _ r=>ug l+ug r+1
theorem D_(k):∀(t:Tr) (c:List jN),(find k t c).2.length≤c.length+ug t
 |.e,c=>by simp[find,ug]
 |.n l i m r,c=>by
  have h1:=D_ k l (.L i m r::c);have h2:=D_ k r (.R l i m::c);unfold find;simp only[ug,gg]at*;split
  ·omega
  ·split
   ·simp only;omega
   ·omega
section
variable (t:Nat) (ap:bO) (s:Sl) (sz rm:Int) (l:List Nd) (T:Tr)
theorem AM(hT:iH l T)(hl:l.length≤4096):bu (L_ (some ⟨t,0⟩)) (af t [.ptr ap,aY s,aE (T.rt+1),aE sz,aE rm]^aS s KN l) (λr=>bs (r=T.rt) (af t [.ptr ap,aY s,aE (T.rt+1),aE sz,aE rm]^aS s KN l)):=
 bC λw0 S R h=>by
  refine ae (λc=>(by cases c)) λ_=>ac (ah h rfl ?_);have e:i64.wrap (T.rt+1-1)=T.rt:=by
   have:-1≤T.rt∧T.rt≤4096:=by
    cases T with
    |e=>simp[Tr.rt]
    |n L i k R=>have:=(oC hT).1.2;simp only[Tr.rt,eX]at*;omega
   rw[Int.add_sub_cancel];exact gi
  dsimp only;rw[e];exact au.aH rfl h
theorem Jn(hT:iH l T)(hl:l.length≤4096)(hz:ug T≤4096)(k:Key):bu (Qd (some ⟨t,0⟩) k) (af t [.ptr ap,aY s,aE (T.rt+1),aE sz,aE rm]^aS s KN l) (λr=>aS r KI (iw (find k T []))^af t [.ptr ap,aY s,aE (T.rt+1),aE sz,aE rm]^aS s KN l):=
 bC λw0 S R h=>by
  refine aD h λn1 w h=>?_;refine aK (AM t ap s sz rm l T hT hl) h λw h=>?_;have h:=h.nil KI;have h:=h.eN (s:=⟨none,0,0⟩) (K:=KI) (ys:=(g_ []).reverse) rfl;have h:au w0 S R w (aS ⟨none,0,0⟩ KI (g_ []).reverse^af n1 (Ks.mk [.int .u64,.int .u64] k)^af t [.ptr ap,aY s,aE (T.rt+1),aE sz,aE rm]^aS s KN l):=h.aI;refine fY (λ(y:Sl×Int) (x:Tr×List jN)=>aS y.1 KI (g_ x.2).reverse^af n1 (Ks.mk [.int .u64,.int .u64] k)^af t [.ptr ap,aY s,aE (T.rt+1),aE sz,aE rm]^aS s KN l) (λ(y:Sl×Int) (x:Tr×List jN)=>y.2=x.1.rt∧iH l x.1∧find k T []=find k x.1 x.2∧x.2.length+ug x.1≤4096) (λ_ (x:Tr×List jN)=>ug x.1) (T,[]) h ⟨rfl,hT,rfl,by simpa using hz⟩ ?_;rintro K (⟨q,i⟩:Sl×Int) ⟨sub,c⟩ w ⟨hi,hs,hf,hn⟩ h hK;dsimp only at hi hs hf hn h hK⊢;cases sub with
  |e=>
   rw[hi];refine ae (λc=>(by simp[Tr.rt]at c)) λ_=>?_;rw[hf];have h:=h.eN (s:=q) (K:=KI) (ys:=iw (find k .e c)) (by simp[iw,find,sP]);exact h.aI
  |n L j m Rr=>
   obtain⟨hin,hnt⟩:=oC hs;have hi:i=(j:Int):=hi;rw[hi];refine ae (λ_=>?_) λc=>(by have c:((j:Int)!= -1)=false:=c;simp at c);refine aD h λn5 w h=>?_;have h:=h.co n5 KI [(j:Int)] rfl (by simp);simp only[ug]at hn;refine dF (s:=q) (x:=⟨some ⟨n5,0⟩,1,1⟩) h rfl (by simp[g_];omega) λs6 w _ h=>?_;refine aM h λw h=>aw (x:=k) h rfl (ac (ah h rfl (iQ (s:=s) h hin (Xd h hin ?_))));have ek:jJ l (j:Int)=m:=by rw[jJ,hnt]
   have el:Tree.lt l (j:Int)=L.rt:=(by rw[Tree.lt,hnt]);have er:bT l (j:Int)=Rr.rt:=(by rw[bT,hnt]);rw[ek];refine aK (EG k m) h λw h=>?_;rw[find]at hf;refine ae (λc1=>?_) λc1=>?_
   ·have c1:lH k m=true:=M7.1 (bV c1);rw[aG c1]at hf;refine ac (ah h rfl (iQ (s:=s) h hin (Lz h hin ?_)));rw[el];have h:=h.eN (s:=s6) (K:=KI) (ys:=(g_ (.L j m Rr::c)).reverse) (by simp[g_,jN.i]);exact hK (s6,L.rt) (L,.L j m Rr::c) w ⟨rfl,hs.2.1,hf,by simp;omega⟩ h.aI (by simp only[ug];omega)
   have c1:lH k m=false:=by
    have:=bY c1;rw[M7]at this;simpa using this
   rw[ay (by rw[c1];simp)]at hf;refine ae (λc2=>?_) λc2=>?_
   ·have c2:=(SX.1 (bV c2)).2;rw[ay c2]at hf;refine ac (ah h rfl (iQ (s:=s) h hin (Oi h hin ?_)));rw[er];have h:=h.eN (s:=s6) (K:=KI) (ys:=(g_ (.R L j m::c)).reverse) (by simp[g_,jN.i]);exact hK (s6,Rr.rt) (Rr,.R L j m::c) w ⟨rfl,hs.2.2,hf,by simp;omega⟩ h.aI (by simp only[ug];omega)
   ·have c2:=bY c2;rw[SX]at c2;have c2:k=m:=by
     by_cases e:k=m
     ·exact e
     ·exact absurd ⟨c1,e⟩ c2
    rw[aG c2]at hf;rw[hf];have h:=h.eN (s:=s6) (K:=KI) (ys:=iw (.n L j m Rr,c)) (by simp[iw,sP]);exact h.aI
theorem w9(hT:iH l T)(hz:ug T≤4096)(tp:Int):bu (Ma (some ⟨t,0⟩) T.rt) (af t [.ptr ap,aY s,aE tp,aE sz,aE rm]^aS s KN l) (λr=>aS r KI (kN T)^af t [.ptr ap,aY s,aE tp,aE sz,aE rm]^aS s KN l):=
 bC λw0 S R h=>by
  have h:=h.nil KI;refine fY (λ(y:Int×Sl) (x:List Int×Tr)=>aS y.2 KI x.1^af t [.ptr ap,aY s,aE tp,aE sz,aE rm]^aS s KN l) (λ(y:Int×Sl) (x:List Int×Tr)=>y.1=x.2.rt∧iH l x.2∧kN T=x.1++kN x.2∧x.1.length+ug x.2≤4096) (λ_ (x:List Int×Tr)=>ug x.2) ([],T) h ⟨rfl,hT,rfl,by simpa using hz⟩ ?_;rintro K (⟨i,q⟩:Int×Sl) ⟨xs,sub⟩ w ⟨hi,hs,hf,hn⟩ h hK;dsimp only at hi hs hf hn h hK⊢;cases sub with
  |e=>
   rw[hi];refine ae (λc=>(by simp[Tr.rt]at c)) λ_=>?_;rw[hf,kN,rn];exact h
  |n L j m Rr=>
   obtain⟨hin,hnt⟩:=oC hs;have hi:i=(j:Int):=hi;rw[hi];refine ae (λ_=>?_) λc=>(by have c:((j:Int)!= -1)=false:=c;simp at c);refine aD h λn5 w h=>?_;have h:=h.co n5 KI [(j:Int)] rfl (by simp);simp only[ug]at hn;refine dF (s:=q) (x:=⟨some ⟨n5,0⟩,1,1⟩) h rfl (by simp;omega) λs6 w _ h=>?_;have el:Tree.lt l (j:Int)=L.rt:=by rw[Tree.lt,hnt]
   refine ac (ah h rfl (iQ (s:=s) h hin (Lz h hin ?_)));rw[el];exact hK (L.rt,s6) (xs++[(j:Int)],L) w ⟨rfl,hs.2.1,by rw[hf,kN];simp,by simp;omega⟩ h.aI (by simp only[ug];omega)
theorem BR(hT:iH l T)(hs:Ba T.ino)(hz:ug T≤4096)(k:Key)(q:Sl)(tp:Int):bu (Qe (some ⟨t,0⟩) q k) (aS q KI (iw (find k T []))^af t [.ptr ap,aY s,aE tp,aE sz,aE rm]^aS s KN l)
  (λr=>bs (r=(find k T []).1.rt) (aS q KI (iw (find k T []))^af t [.ptr ap,aY s,aE tp,aE sz,aE rm]^aS s KN l)):=
 bC λw0 S R h=>by
  have hlen:=(h.rd (s:=q)).2;obtain⟨g1,g2,g3⟩:=vE k T [] hs (by simp[lk]) (by simp[rk]);have hfill:=n_ k T [];have hwl:=D_ k T [];generalize find k T []=p at*
  obtain⟨sub,c⟩:=p;dsimp only at g1 g2 g3 hfill hwl;have hR:iH l (fill sub c):=by rw[hfill];exact hT
  obtain⟨r1,r2⟩:=kd hR;have hpl:(iw (sub,c)).length≤4097:=by
   have:(sP sub).length≤1:=(by cases sub<;>simp[sP]);simp only[iw,gp,List.length_reverse,g_,fz];simp only[kb]at hwl;omega
  refine aD h λn1 w h=>?_;have h:au w0 S R w (af n1 (Ks.mk [.int .u64,.int .u64] k)^aS q KI (iw (sub,c))^af t [.ptr ap,aY s,aE tp,aE sz,aE rm]^aS s KN l):=h.aI;refine aQ h (λ_=>af n1 (Ks.mk [.int .u64,.int .u64] k)^aS q KI (iw (sub,c))^af t [.ptr ap,aY s,aE tp,aE sz,aE rm]^aS s KN l) (λy:Bool=>y=nE sub) (λ(y:Bool) w hy h=>?_) ?_
  ·rw[hy];refine ae (λc1=>?_) λc1=>?_
   ·rcases g3 with g3|⟨L,i,r,g3⟩
    ·rw[g3]at c1;cases c1
    have e:i64.wrap (((q.len:Nat):Int)-1)=((g_ c).length:Int):=(by rw[hlen,gi,iw,g3];simp[sP]);have hat:(iw (sub,c))[(((g_ c).length:Nat):Int).toNat]?=some (i:Int):=(by rw[g3,iw];simp[sP]);rw[e];refine bS (s:=q) h (by omega) (by rw[iw,g3];simp[sP]) (dP h q (((g_ c).length:Nat):Int).toNat hat rfl ?_);exact au.aH (by rw[g3];rfl) h.aI
   ·have c1:sub=.e:=by
     cases sub with
     |e=>rfl
     |n L i m r=>cases c1
    exact au.aH (by rw[c1];rfl) h.aI
  ·refine aM h λw h=>ae (λc1=>?_) λc1=>?_
   ·have c1:((q.len:Nat):Int)>0:=bV c1;have hne:(iw (sub,c)).length>0:=(by omega);have e:i64.wrap (((q.len:Nat):Int)-1)=(((iw (sub,c)).length-1:Nat):Int):=(by rw[hlen,gi];omega);refine aw (x:=k) h rfl (ac ?_);rw[e];have hlast:∃j:Nat,(iw (sub,c))[((((iw (sub,c)).length-1:Nat):Int)).toNat]?=some (j:Int)∧In l (j:Int)∧decide (jJ l (j:Int)=k)=nE sub:=by
     rw[eX];rcases g3 with g3|⟨L,i,r,g3⟩
     ·rw[g3]at hne⊢r2 hfill hR;cases c with
      |nil=>simp[iw,sP,g_]at hne
      |cons f c=>
       have hp:iw (.e,f::c)=(g_ c).reverse++[(f.i:Int)]:=(by simp[iw,g_,sP]);rw[hp];refine⟨f.i,by simp,?_⟩;cases f with
       |L i m r=>
        obtain⟨⟨hx,h1⟩,_⟩:=r2;refine⟨⟨by simp[jN.i],by simp only[jN.i,eX];exact(iy.1 h1).1⟩,?_⟩;have e1:jJ l (i:Int)=m:=by rw[jJ,gG h1]
        have e2:jJ l ((jN.L i m r).i:Int)=m:=e1;rw[e2];have:=g2 m (by simp[rk]);have hne:m≠k:=λe=>by rw[e,tc]at this;cases this
        simp[hne,nE]
       |R L' i m=>
        obtain⟨⟨hx,h1⟩,_⟩:=r2;refine⟨⟨by simp[jN.i],by simp only[jN.i,eX];exact(iy.1 h1).1⟩,?_⟩;have e1:jJ l (i:Int)=m:=by rw[jJ,gG h1]
        have e2:jJ l ((jN.R L' i m).i:Int)=m:=e1;rw[e2];have:=g1 m (by simp[lk]);have hne:m≠k:=λe=>by rw[e,tc]at this;cases this
        simp[hne,nE]
     ·rw[g3]at r1⊢;obtain⟨hin,hnt⟩:=oC r1;have hp:iw (.n L i k r,c)=(g_ c).reverse++[(i:Int)]:=by simp[iw,sP]
      rw[hp];refine⟨i,by simp,hin,?_⟩;have e1:jJ l (i:Int)=k:=by rw[jJ,hnt]
      rw[e1];simp[nE]
    obtain⟨j,hj1,hj2,hj3⟩:=hlast;refine bS (s:=q) h (by omega) (by rw[eX];omega) (ah h rfl (dP h q _ hj1 rfl (iQ (s:=s) h hj2 (Xd h hj2 ?_))));refine⟨?_,h⟩;rw[←hj3,jG];simp only[d_,qQ,iZ];exact⟨λ⟨a,b⟩=>IK a b,λe=>by rw[e];exact⟨rfl,rfl⟩⟩
   ·have c1:¬((q.len:Nat):Int)>0:=bY c1;refine⟨?_,h⟩;have:(iw (sub,c)).length=0:=(by omega);have hsub:sub=.e:=by
     cases sub with
     |e=>rfl
     |n L i m r=>simp[iw,sP]at this
    rw[hsub];rfl
end
end BI

namespace iU
open _root_.Go.X.Tree yR BI
open Tr (e)
theorem H7:∀t:Tr,ug t=t.cJ.length
 |.e=>rfl
 |.n l i k r=>by simp[ug,Tr.cJ,H7 l,H7 r];omega
structure ns(l:List Nd)(T:Tr)(us:List Bool)(fr:List Nat)(ks:List Key)(rm:Int):Prop where
 kQ:iH l T
 pP:T.pP
 ino:T.ino=ks
 xA:Ba ks
 lk:Lk l 5000
 ul:us.length=l.length
 nd:(T.cJ++fr).Nodup
 all:∀i,i<l.length→i∈T.cJ∨i∈fr
 lt:∀i∈fr,i<l.length
 on:∀i∈T.cJ,us[i]?=some true
 rr:0≤rm∧rm≤4096
 room:(l.length:Int)≤rm
theorem Nx:∀(m:Nat) (l:List Nat),l.Nodup→(∀x∈l,x<m)→l.length≤m:=λm l hd h=>by
 have:=qk m (l.map λx:Nat=>(x:Int)) (by
  rw[N3,List.pairwise_map];exact(N3.1 hd).imp λ{a b} hab e=>hab (by omega)) (λx hx=>by
  obtain⟨y,hy,rfl⟩:=pu.1 hx;have:=h y hy;omega)
 simpa using this
theorem ns.IH{rm:Int}(h:ns l T us fr ks rm):T.cJ.length+fr.length≤l.length:=by
 have:=Nx l.length (T.cJ++fr) h.nd (λx hx=>by
  rcases eQ.1 hx with hx|hx
  ·exact h.kQ.lt x hx
  ·exact h.lt x hx)
 rwa[gp]at this
theorem ns.M8{rm:Int}(h:ns l T us fr ks rm):ks.length=T.cJ.length:=by rw[←h.ino,Tr.C6]
theorem ns.small{rm:Int}(h:ns l T us fr ks rm):l.length≤4096∧ug T≤4096∧fr.length≤4096∧ks.length≤4096:=by
 have h1:=h.IH;have h2:=h.room;have h3:=h.rr;have h4:=H7 T;have h5:=h.M8;omega
abbrev St:=List Nd×Tr×List Bool×List Nat×Nat×Sl×Sl×Sl
def tree(rm:Int)(t:Nat)(ks:List Key):SP:=xQ (λx:St=>ns x.1 x.2.1 x.2.2.1 x.2.2.2.1 ks rm) (λx=>af t [.ptr (some ⟨x.2.2.2.2.1,0⟩),aY x.2.2.2.2.2.1,aE (x.2.1.rt+1),aE ks.length,aE rm]^aS x.2.2.2.2.2.1 KN x.1^af x.2.2.2.2.1 [aY x.2.2.2.2.2.2.1,aY x.2.2.2.2.2.2.2,aE rm]^aS x.2.2.2.2.2.2.1 KB x.2.2.1^aS x.2.2.2.2.2.2.2 KI (x.2.2.2.1.map λx:Nat=>(x:Int)))
instance(rm:Int)(t:Nat)(ks:List Key):nl (tree rm t ks):=by unfold tree;infer_instance
section
variable {w0 w:World} {S0 R0:Nat→Prop} {F G:SP} {ks:List Key}
theorem _root_.Go.X.au.tree(h:au w0 S0 R0 w F)(rm:Int)(t)[tk:ol (iU.tree rm) t F ks G]:∃(l:List Nd) (T:Tr) (us:List Bool) (fr:List Nat) (a:Nat) (s s1 s2:Sl),ns l T us fr ks rm∧
  au w0 S0 R0 w (af t [.ptr (some ⟨a,0⟩),aY s,aE (T.rt+1),aE ks.length,aE rm]^aS s KN l^af a [aY s1,aY s2,aE rm]^aS s1 KB us^aS s2 KI (fr.map λx:Nat=>(x:Int))^G):=by
 obtain⟨⟨l,T,us,fr,a,s,s1,s2⟩,hg,h⟩:=au.uQ (h.le tk.le);exact⟨l,T,us,fr,a,s,s1,s2,hg,h.aI⟩
theorem _root_.Go.X.au.qO{rm:Int}(h:au w0 S0 R0 w F)(t l T us fr a s s1 s2)(hg:ns l T us fr ks rm)[tk:Take (af t [.ptr (some ⟨a,0⟩),aY s,aE (T.rt+1),aE ks.length,aE rm]^aS s KN l^af a [aY s1,aY s2,aE rm]^aS s1 KB us^aS s2 KI (fr.map λx:Nat=>(x:Int))) F G]:
  au w0 S0 R0 w (iU.tree rm t ks^G):=
 au.rA (φ:=λx:St=>ns x.1 x.2.1 x.2.2.1 x.2.2.2.1 ks rm) (f:=λx=>af t [.ptr (some ⟨x.2.2.2.2.1,0⟩),aY x.2.2.2.2.2.1,aE (x.2.1.rt+1),aE ks.length,aE rm]^aS x.2.2.2.2.2.1 KN x.1^af x.2.2.2.2.1 [aY x.2.2.2.2.2.2.1,aY x.2.2.2.2.2.2.2,aE rm]^aS x.2.2.2.2.2.2.1 KB x.2.2.1^aS x.2.2.2.2.2.2.2 KI (x.2.2.2.1.map λx:Nat=>(x:Int))) h (l,T,us,fr,a,s,s1,s2) hg
end
def room(n:Int):Int:=min (max n 0) 4096
theorem HP(n:Int):0≤room n∧room n≤4096:=by unfold room;omega
theorem X0(n:Int):ns [] .e [] [] [] (room n) where
 kQ:=trivial
 pP:=trivial
 ino:=rfl
 xA:=List.Pairwise.nil
 lk:=λi hi=>by have:=hi.2;simp at this
 ul:=rfl
 nd:=by simp[Tr.cJ]
 all:=λi hi=>by simp at hi
 lt:=λi hi=>by simp at hi
 on:=λi hi=>by simp[Tr.cJ]at hi
 rr:=HP n
 room:=by have:=HP n;simp;omega
theorem jD(n:Int):bu (ZR n) bg (λr=>ex λt:Nat=>bs (r=some ⟨t,0⟩) (tree (room n) t [])):=
 bC λw0 S R h=>by
  have e:(if(4096:Int)<(if(0:Int)>n then(0:Int)else n)then(4096:Int)else(if(0:Int)>n then(0:Int)else n))=room n:=by unfold room;(repeat' split)<;>omega
  rw[e];refine ar (KE (room n)) h λr w h=>?_;obtain⟨a,h⟩:=h.lV;obtain⟨hr,h⟩:=h.aP;rw[hr];have e2:min (max (room n) 0) 4096=room n:=by have:=HP n;omega
  rw[e2]at h;refine aD h λt w h=>?_;have h:au w0 S R _ (aS ⟨none,0,0⟩ KI (([]:List Nat).map λx:Nat=>(x:Int))^_):=h.nil KI;have h:=(h.nil KB).nil KN;have h:=h.dQ (b:=t) (L':=[.ptr (some ⟨a,0⟩),aY ⟨none,0,0⟩,aE (Tr.e.rt+1),aE (([]:List Key).length:Int),aE (room n)]) rfl;have h:au w0 S R _ (af t [.ptr (some ⟨a,0⟩),aY ⟨none,0,0⟩,aE (Tr.e.rt+1),aE (([]:List Key).length:Int),aE (room n)]^aS ⟨none,0,0⟩ KN []^af a [aY ⟨none,0,0⟩,aY ⟨none,0,0⟩,aE (room n)]^aS ⟨none,0,0⟩ KB []^aS ⟨none,0,0⟩ KI (([]:List Nat).map λx:Nat=>(x:Int))):=h.aI;exact au.ie t (au.aH rfl (h.qO t [] .e [] [] a ⟨none,0,0⟩ ⟨none,0,0⟩ ⟨none,0,0⟩ (X0 n)).br)
theorem IA{rm:Int}(hg:ns l T us fr ks rm)(k):
  (k∉ks∧(∃c,find k T []=(.e,c)∧ks=lk c++rk c∧(∀m∈lk c,lH m k=true)∧∀m∈rk c,lH k m=true))∨
  (k∈ks∧∃L i R c,find k T []=(.n L i k R,c)∧fill (.n L i k R) c=T):=by
 have hs:Ba T.ino:=by rw[hg.ino];exact hg.xA
 obtain⟨g1,g2,g3⟩:=vE k T [] hs (by simp[lk]) (by simp[rk]);have hf:=n_ k T [];have hi:=hg.ino;generalize find k T []=p at*
 obtain⟨sub,c⟩:=p;dsimp only at g1 g2 g3 hf;have hf:fill sub c=T:=hf;rcases g3 with g3|⟨L,i,R,g3⟩
 ·left;subst g3;have eo:ks=lk c++rk c:=by rw[←hi,←hf,ou];simp[Tr.ino]
  refine⟨λhk=>?_,c,rfl,eo,g1,g2⟩;rw[eo,eQ]at hk;rcases hk with hk|hk
  ·have:=g1 k hk;rw[tc]at this;cases this
  ·have:=g2 k hk;rw[tc]at this;cases this
 ·right;subst g3;refine⟨?_,L,i,R,c,rfl,hf⟩;rw[←hi,←hf,ou];simp[Tr.ino]
def dy:List jN→Int
 |[]=>-1
 |.L i _ _::_=>i
 |.R _ _ _::c=>dy c
end iU

namespace kR
open _root_.Go.X.Tree yR BI iU
def mO(ks:List Key)(k:Key):List Key:=ks.takeWhile (λm=>lH m k)++k::ks.dropWhile (λm=>lH m k)
def MY(rm:Int)(ks:List Key)(k:Key):Int×List Key:=if k∈ks then(6,ks)else if(ks.length:Int)≥rm then(5,ks)else(0,mO ks k)
def GC(ks:List Key)(k:Key):Int×List Key:=if k∈ks then(0,ks.erase k)else(7,ks)
theorem Dg(h1:∀m∈a,lH m k=true)(h2:∀m∈b,lH k m=true):mO (a++b) k=a++k::b:=by
 unfold mO
 induction a with
 |nil=>
  cases b with
  |nil=>rfl
  |cons x b=>
   have hx:lH x k=false:=E1 (h2 x (by simp));simp[hx]
 |cons x a ih=>
  have hx:lH x k=true:=h1 x (by simp);have:=ih λm hm=>h1 m (by simp[hm]);simp only[nM,Ax,Hg,hx,iz]at this⊢;rw[this]
theorem Kk{a b:List Key}{k:Key}(h:k∉a):(a++k::b).erase k=a++b:=by rw[List.erase_append_right _ h,List.erase_cons_head]
theorem SY{l l':List Nd}{T:Tr}{B:Int}(h:iH l' T)(hl:l'.length=l.length)(hB:(T.ino.length:Int)≤B)(hk:Lk l B)(hf:∀p,p∉T.cJ→l'[p]?=l[p]?):Lk l' B:=by
 have sub:∀t:Tr,iH l' t→(t.ino.length:Int)≤B→∀i∈t.cJ,(Tree.lt l' (i:Int)=-1∨In l' (Tree.lt l' (i:Int)))∧(bT l' (i:Int)=-1∨In l' (bT l' (i:Int)))∧0≤hh l' (i:Int)∧hh l' (i:Int)≤B:=by
  intro t
  induction t with
  |e=>intro _ _ i hi;simp[Tr.cJ]at hi
  |n L j k R ihL ihR=>
   intro ht hb i hi;simp only[Tr.ino,gp,gg]at hb;simp only[Tr.cJ,eQ,ec]at hi;have rin:∀t:Tr,iH l' t→t.rt=-1∨In l' t.rt:=λt ht=>by
    cases t with
    |e=>exact .inl rfl
    |n L i k R=>exact .inr (oC ht).1
   rcases hi with hi|rfl|hi
   ·exact ihL ht.2.1 (by omega) i hi
   ·obtain⟨h1,h2⟩:=oC ht;have s1:=yu L;have s2:=yu R;have n1:=L.xR;simp only[Tree.lt,bT,hh,h2];exact⟨rin L ht.2.1,rin R ht.2.2,by omega,by omega⟩
   ·exact ihR ht.2.2 (by omega) i hi
 intro i hi;by_cases hm:i.toNat∈T.cJ
 ·have:=sub T h hB i.toNat hm;have e:((i.toNat:Nat):Int)=i:=Ah hi.1;rwa[e]at this
 ·have hi2:In l i:=hi.len hl.symm;have e:nth l' i=nth l i:=by
   have h1:=oy hi;have h2:=oy hi2;rw[hf _ hm,h2]at h1;exact(lE h1).symm
  have:=hk i hi2;simp only[Tree.lt,bT,hh,e];exact⟨this.1.imp id (·.len hl),this.2.1.imp id (·.len hl),this.2.2⟩
theorem D9:∀{c:List jN} {hole:Int},Bi l hole c→∀x∈g_ c,In l x
 |[],_,_,x,hx=>by simp[g_]at hx
 |.L i k r::c,hole,⟨⟨h0,h1⟩,_,h3⟩,x,hx=>by
  simp only[g_,kJ,ec]at hx;rcases hx with rfl|hx
  ·exact⟨by simp[jN.i],by simp only[jN.i,eX];exact(iy.1 h1).1⟩
  ·exact D9 h3 x hx
 |.R q i k::c,hole,⟨⟨h0,h1⟩,_,h3⟩,x,hx=>by
  simp only[g_,kJ,ec]at hx;rcases hx with rfl|hx
  ·exact⟨by simp[jN.i],by simp only[jN.i,eX];exact(iy.1 h1).1⟩
  ·exact D9 h3 x hx
theorem CU(c t):c.length+ug t≤ug (fill t c):=by
 induction c generalizing t with
 |nil=>simp[fill]
 |cons f c ih=>
  have:=ih (f.put t);rw[fill];cases f<;>simp only[jN.put,ug,gg]at*<;>omega
theorem MV{l l1:List Nd}{T:Tr}{us us1:List Bool}{fr fr1:List Nat}{ks:List Key}{rm:Int}(hg:ns l T us fr ks rm){k:Key}{c:List jN}{i:Nat}
  (hf:find k T []=(.e,c)) (hi:i∉T.cJ) (h1:l1[i]?=some (k.1,k.2,-1,-1,1)) (hr:∀j∈T.cJ,l1[j]?=l[j]?) (hlk:Lk l1 5000) (hul:us1.length=l1.length)
  (hnd:(T.cJ++fr).Nodup→(i::T.cJ++fr1).Nodup) (hall:∀j,j<l1.length→j=i∨j∈T.cJ∨j∈fr1) (hlt:∀j∈fr1,j<l1.length) (hon:∀j,j=i∨j∈T.cJ→us1[j]?=some true) (hroom:(l1.length:Int)≤rm):
  ∃T',(iK l1 (-1) i (g_ c)).2=T'.rt∧ns (iK l1 (-1) i (g_ c)).1 T' us1 fr1 (mO ks k) rm:=by
 have hs:Ba T.ino:=by rw[hg.ino];exact hg.xA
 have hnd0:=hg.nd;have hdT:T.cJ.Nodup:=(ka.1 hnd0).1;obtain⟨T',mv,eo,ei,g1,g2⟩:=Re hg.kQ hf hg.pP hdT hs hi h1 hr;have eks:ks=lk c++rk c:=by rw[←hg.ino,eo]
 have ep:mO ks k=lk c++k::rk c:=by rw[eks];exact Dg g1 g2
 have hino:T'.ino=mO ks k:=by rw[mv.ino,ep];simp[Tr.ino]
 have hids:T'.cJ=lc c++i::rc c:=by rw[mv.cJ];simp[Tr.cJ]
 have hlen:=BW (g_ c) l1 (-1) i;have hmem:∀j,j∈T'.cJ↔j=i∨j∈T.cJ:=λj=>by
  rw[hids,ei];simp only[eQ,ec];exact⟨λh=>h.elim (λh=>.inr (.inl h)) λh=>h.elim .inl λh=>.inr (.inr h),λh=>h.elim (λh=>.inr (.inl h)) λh=>h.elim .inl λh=>.inr (.inr h)⟩
 have hp:(i::T.cJ++fr1).Perm (T'.cJ++fr1):=by
  rw[hids,ei];refine List.Perm.append_right _ ?_;exact List.perm_middle.symm
 refine⟨T',mv.root,⟨mv.kQ,mv.pP,hino,?_,?_,by rw[hul,hlen],?_,λj hj=>?_,λj hj=>by rw[hlen];exact hlt j hj,λj hj=>hon j ((hmem j).1 hj),hg.rr,by rw[hlen];exact hroom⟩⟩
 ·rw[ep];have:=hg.xA;rw[eks]at this;exact this.put g1 g2
 ·have hsz:(T'.ino.length:Int)≤5000:=by
   rw[hino,ep];have:=hg.small.2.2.2;rw[eks]at this;simp at this⊢;omega
  exact SY mv.kQ hlen hsz hlk λp hp=>mv.fr p (by rw[←mv.cJ];exact hp)
 ·exact hp.nodup_iff.1 (hnd hnd0)
 ·rw[hlen]at hj;rcases hall j hj with h|h|h
  ·exact .inl ((hmem j).2 (.inl h))
  ·exact .inl ((hmem j).2 (.inr h))
  ·exact .inr h
theorem GP(t)(rm:Int)(ks k):bu (Z7 (some ⟨t,0⟩) k) (tree rm t ks) (λr=>bs (r=(MY rm ks k).1) (tree rm t (MY rm ks k).2)):=
  bC λw0 S R h=>by
    obtain⟨l,T,us,fr,a,s,s1,s2,hg,h⟩:=h.tree rm t;obtain⟨b1,b2,b3,b4⟩:=hg.small;have hs:Ba T.ino:=by rw[hg.ino];exact hg.xA
    refine aD h λn1 w h=>ae (λc=>(by cases c)) λ_=>aw (x:=k) h rfl ?_;refine ar (Jn t (some ⟨a,0⟩) s ks.length rm l T hg.kQ b1 b2 k) h λq w h=>?_;refine aw (x:=k) h rfl ?_;refine aK (BR t (some ⟨a,0⟩) s ks.length rm l T hg.kQ hs b2 k q (T.rt+1)) h λw h=>?_;unfold MY;rcases IA hg k with⟨hk,c,hf,eks,g1,g2⟩|⟨hk,L,i,Rr,c,hf,_⟩
    · rw[ay hk]
      rw[hf]at h⊢;refine ae (λc=>(by simp[Tr.rt]at c)) λ_=>?_;refine aM h λw h=>ac (ac (ah h rfl (ah h rfl ?_)));refine ae (λc1=>?_) λc1=>?_
      · rw[aG (bV c1)]
        exact au.aH rfl (h.qO t l T us fr a s s1 s2 hg).br
      have c1:¬(ks.length:Int)≥rm:=bY c1;rw[ay c1];refine ac (ah h rfl ?_);have hep:iw ((.e,c):Tr×List jN)=(g_ c).reverse:=(by simp[iw,sP]);have hfill:=n_ k T [];rw[hf]at hfill;have hfill:fill .e c=T:=hfill;have hcl:c.length≤4096:=(by have:=CU c .e;rw[hfill]at this;omega);have hwc:∀l1:List Nd,l1.length≥l.length→∀x∈g_ c,In l1 x:=λl1 hl x hx=>by
        have hR:iH l (fill .e c):=(by rw[hfill];exact hg.kQ);have:=D9 (kd hR).2 x hx;exact⟨this.1,Aj this.2 hl⟩
      have aI:∀(w:World) (l1:List Nd) (us1:List Bool) (fr1:List Nat) (i:Nat) (s s1 s2:Sl) (j:Nd),
          i∉T.cJ→l1[i]? =some j→(∀p∈T.cJ,p<l.length→l1[p]? =l[p]?)→Lk (l1.set i (k.1,k.2,-1,-1,1)) 5000→us1.length=l1.length→l1.length≥l.length→l1.length≤4096→
          ((T.cJ++fr).Nodup→(i::T.cJ++fr1).Nodup)→(∀j,j<l1.length→j=i∨j∈T.cJ∨j∈fr1)→(∀j∈fr1,j<l1.length)→(∀j,j=i∨j∈T.cJ→us1[j]? =some true)→((l1.length:Int)≤rm)→
          au w0 S R w (af t [.ptr (some ⟨a,0⟩),aY s,aE (T.rt+1),aE ks.length,aE rm]^aS s KN l1^af a [aY s1,aY s2,aE rm]^aS s1 KB us1^aS s2 KI (fr1.map λx:Nat=>(x:Int))^aS q KI (g_ c).reverse^af n1 (Ks.mk [.int .u64,.int .u64] k)^bg)→
          (bR<|
  ld [.int .u64,.int .u64] ⟨n1,0⟩ λ(x22:Int×Int)=>
  aC (some ⟨t,0⟩) λq23=>
  ld [.sl] ⟨q23.b,q23.o+1⟩ λ(x24:Sl)=>
  idx x24 (i:Int) 5 λq25=>
  st q25 [aB x22.1,aB x22.2,aE (-1:Int),aE (-1:Int),aE (1:Int)]<|
  aC (some ⟨t,0⟩) λq26=>
  ld [.int .i64] ⟨q26.b,q26.o+3⟩ λ(x27:Int)=>
  aC (some ⟨t,0⟩) λq28=>
  st ⟨q28.b,q28.o+3⟩ [aE (i64.wrap (x27+(1:Int)))]<|
  call Tryz.prog uq [.lf (.ptr (some ⟨t,0⟩)),.lf (.sl q),.lf (.int .i64 (-1:Int)),.lf (.int .i64 (i:Int))] [] λ(r29:Unit)=>
  λw=>au w0 S R w (bs ((0:Int)=0) (tree rm t (mO ks k)))) w:=by
        intro w l1 us1 fr1 i s s1 s2 j hi hj hr hlk hul hge h4096 hnd hall hlt hon hroom h;refine aM h λw h=>aw (x:=k) h rfl (ac (ah h rfl ?_));have hin:In l1 (i:Int):=⟨by omega,by rw[eX];exact(iy.1 hj).1⟩;refine iQ (s:=s) h hin ?_;refine mG h s i 0 j (k.1,k.2,-1,-1,1) hj (by rw[eX];rfl) (by simp) (by simp) rfl λw h=>?_;refine ac (ah h rfl (ac (bh h rfl λw h=>?_)));dsimp only[dE,over]at h;have ew:i64.wrap ((ks.length:Int)+1)=((mO ks k).length:Int):=by rw[gi,eks,Dg g1 g2];simp;omega
        rw[ew]at h;have hl1:(l1.set i (k.1,k.2,-1,-1,1)).length=l1.length:=rp;have hin1:In (l1.set i (k.1,k.2,-1,-1,1)) (i:Int):=hin.len hl1;have h:=h.eN (s:=s) (K:=KN) (ys:=l1.set i (k.1,k.2,-1,-1,1)) rfl;refine bP (A:=af t [.ptr (some ⟨a,0⟩),aY s,aE (T.rt+1),aE (mO ks k).length,aE rm]^aS s KN (l1.set i (k.1,k.2,-1,-1,1))) (Q:=aV q KI (g_ c).reverse) (MX t (some ⟨a,0⟩) s (T.rt+1) (mO ks k).length rm (l1.set i (k.1,k.2,-1,-1,1)) q (g_ c).reverse (-1) i (λx hx=>hwc _ (by rw[hl1];exact hge) x (List.mem_reverse.1 hx)) hin1 5000 hlk (by omega) (by simp[g_];omega) (by rw[hl1];omega)) h λ_ w h=>?_;rw[List.reverse_reverse]at h;obtain⟨T',hroot,hgood⟩:=MV (l1:=l1.set i (k.1,k.2,-1,-1,1)) (us1:=us1) (fr1:=fr1) hg hf hi (by rw[sD (iy.1 hj).1]) (λp hp=>by
          rw[xZ (show i≠p from λe=>hi (e▸hp))];exact hr p hp (hg.kQ.lt p hp)) hlk (by rw[hl1];exact hul) hnd (by rw[hl1];exact hall) (by rw[hl1];exact hlt) hon (by rw[hl1];exact hroom)
        rw[hroot]at h;exact au.aH rfl (h.qO t _ T' us1 fr1 a s s1 s2 hgood).br
      have hidl:=hg.IH;have hkl:=hg.M8;have hrr:=hg.rr;rw[hep]at h;by_cases hfr:fr=[]
      ·
        have hlen:T.cJ.length=l.length:=by
          have h2:l.length≤T.cJ.length:=by
            have:(List.range l.length).length≤T.cJ.length:=by
              refine List.Nodup.length_le_of_subset List.nodup_range λx hx=>?_;rcases hg.all x (List.mem_range.1 hx)with h|h
              · exact h
              · rw[hfr]at h;cases h
            simpa using this
          omega
        have hus:=hg.ul;rw[hfr]at h;have h:=h.eN (s:=s2) (K:=KI) (ys:=[]) rfl;refine ar (Q8 a s1 s2 us rm (by omega) hg.rr.2) h λr w h=>?_;obtain⟨s1',h⟩:=h.lV;obtain⟨hr,h⟩:=h.aP;rw[hr];refine ae (λc=>(by simp at c)) λ_=>?_;have h:au w0 S R w (aS s KN l^af t [.ptr (some ⟨a,0⟩),aY s,aE (T.rt+1),aE ks.length,aE rm]^af a [aY s1',aY s2,aE rm]^aS s1' KB (us++[true])^aS s2 KI []^aS q KI (g_ c).reverse^af n1 (Ks.mk [.int .u64,.int .u64] k)^bg):=h.aI;have hsl:=(h.rd (s:=s)).2;refine⟨_,λ_ _ h=>h,?_⟩;dsimp only;refine ac (ah h rfl (ae (λ_=>?_) λc=>?_))
        · refine ac (ah h rfl (aD h λn w h=>?_))
          have h:=h.co n KN [((0,0,0,0,0):Nd)] rfl (by simp);refine dF (s:=s) (x:=⟨some ⟨n,0⟩,1,1⟩) h rfl (by simp;omega) λs' w hs' h=>?_;refine ac (bh h rfl λw h=>?_);dsimp only[dE,over]at h;have eu:(us.length:Int)=((l.length:Nat):Int):=(by rw[hus]);rw[eu];have h:=h.eN (s:=s2) (K:=KI) (ys:=(([]:List Nat).map λx:Nat=>(x:Int))) rfl;have hlk1:Lk ((l++[((0,0,0,0,0):Nd)]).set l.length (k.1,k.2,-1,-1,1)) 5000:=by
            have e:(l++[((0,0,0,0,0):Nd)]).set l.length (k.1,k.2,-1,-1,1)=l++[(k.1,k.2,-1,-1,1)]:=(by simp);rw[e];intro i hi;by_cases hil:i.toNat<l.length
            · have e2:nth (l++[((k.1,k.2,-1,-1,1):Nd)]) i=nth l i:=by simp[nth,nJ,pn hil]
              have hi2:In l i:=⟨hi.1,hil⟩;have:=hg.lk i hi2;have up:∀j,In l j→In (l++[((k.1,k.2,-1,-1,1):Nd)]) j:=λj hj=>⟨hj.1,by have:=hj.2;simp;omega⟩;simp only[Tree.lt,bT,hh,e2];exact⟨this.1.imp id (up _),this.2.1.imp id (up _),this.2.2⟩
            · have e3:i.toNat=l.length:=by have:=hi.2;simp at this;omega
              have e2:nth (l++[((k.1,k.2,-1,-1,1):Nd)]) i=(k.1,k.2,-1,-1,1):=(by simp[nth,nJ,e3]);simp only[Tree.lt,bT,hh,e2];exact⟨.inl trivial,.inl trivial,by decide,by decide⟩
          refine aI w (l++[(0,0,0,0,0)]) (us++[true]) [] l.length s' s1' s2 (0,0,0,0,0) (λhx=>by have:=hg.kQ.lt _ hx;omega) (by simp) (λp hp hpl=>by rw[pn hpl]) hlk1 (by simp[hus]) (by simp) (by simp;omega) (λhn=>?_) (λj hj=>?_) (λj hj=>(by cases hj)) (λj hj=>?_) (by simp;omega) h.aI
          · rw[hfr,rn]at hn
            rw[rn,lD];exact⟨λhx=>by have:=hg.kQ.lt _ hx;omega,hn⟩
          · simp at hj
            by_cases hjl:j=l.length
            · exact .inl hjl
            · rcases hg.all j (by omega)with h|h
              · exact .inr (.inl h)
              · rw[hfr]at h;cases h
          · rcases hj with rfl|hj
            · simp[←hus]
            · have:=hg.kQ.lt _ hj
              rw[pn (by omega)];exact hg.on j hj
        · have c:((us.length:Int)==((s.len:Nat):Int))=false:=c
          rw[Hj]at c;exact absurd (by rw[hsl,hus]) c
      ·
        obtain⟨f,i,hfi⟩:∃f i,fr=f++[i]:=⟨fr.dropLast,fr.getLast hfr,(N0 hfr).symm⟩;have hus:=hg.ul;have hil:=hg.lt i (by rw[hfi];simp);have hnd:=hg.nd;have hi:i∉T.cJ:=λhx=>by
          rw[ka]at hnd;exact hnd.2.2 i hx i (by rw[hfi];simp) rfl
        refine ar (Q9 a s1 s2 us (fr.map λx:Nat=>(x:Int)) rm (i:Int) (f.map λx:Nat=>(x:Int)) (by rw[hfi];simp) ⟨by omega,by rw[eX];omega⟩ (by rw[fz];omega)) h λr w h=>?_;obtain⟨s2',h⟩:=h.lV;obtain⟨hr,h⟩:=h.aP;rw[hr];refine ae (λc=>(by simp at c)) λ_=>?_;rw[eX]at h;have h:au w0 S R w (aS s KN l^af t [.ptr (some ⟨a,0⟩),aY s,aE (T.rt+1),aE ks.length,aE rm]^af a [aY s1,aY s2',aE rm]^aS s1 KB (us.set i true)^aS s2' KI (f.map λx:Nat=>(x:Int))^aS q KI (g_ c).reverse^af n1 (Ks.mk [.int .u64,.int .u64] k)^bg):=h.aI;have hsl:=(h.rd (s:=s)).2;refine⟨_,λ_ _ h=>h,?_⟩;dsimp only;refine ac (ah h rfl (ae (λc=>?_) λ_=>?_))
        · have c:(i:Int)=((s.len:Nat):Int):=cC
          omega
        · have hlk1:Lk (l.set i (k.1,k.2,-1,-1,1)) 5000:=by
            have:=hg.lk.set (C:=5000) (gQ _) (i:=(i:Int)) ⟨by omega,by rw[eX];exact hil⟩ (x:=(k.1,k.2,-1,-1,1)) (.inl rfl) (.inl rfl) ⟨by show(0:Int)≤1;omega,by show(1:Int)≤5000;omega⟩;rwa[eX]at this
          refine aI w l (us.set i true) f i s s1 s2' l[i] hi (jx hil) (λp hp hpl=>rfl) hlk1 (by simp[hus]) (eE _) b1 (λhn=>?_) (λj hj=>?_) (λj hj=>hg.lt j (by rw[hfi];simp[hj])) (λj hj=>?_) hg.room h.aI
          · rw[hfi]at hn
            have hp:(T.cJ++(f++[i])).Perm (i::T.cJ++f):=by
              rw[←jF];exact(Oh).trans (by simp)
            exact hp.nodup_iff.1 hn
          · rcases hg.all j hj with h|h
            · exact .inr (.inl h)
            · rw[hfi,eQ,j_]at h
              rcases h with h|h
              · exact .inr (.inr h)
              · exact .inl h
          · rcases hj with rfl|hj
            · rw[sD (by omega)]
            · rw[xZ (show i≠j from λe=>hi (e▸hj))]
              exact hg.on j hj
    · rw[aG hk]
      rw[hf];refine ae (λ_=>?_) λc=>(by have c:((i:Int)!= -1)=false:=c;simp at c);exact au.aH rfl (h.qO t l T us fr a s s1 s2 hg).br
end kR

end Go.X
