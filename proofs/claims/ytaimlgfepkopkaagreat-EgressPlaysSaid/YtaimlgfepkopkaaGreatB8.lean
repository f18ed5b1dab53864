/- Contracts and plain facts: SockP SockQ SockV Conf SockW EgM EgA EgB EgC EgD EgE. -/
import Derived.Test.YtaimlgfepkopkaaGreatB7
set_option linter.all false
namespace Go.X
open Go.Proofs
namespace ta
open bB bi f_ eA fZ eH dY fk dZ eS ki mi nD nF lj qX mj wS ml nG
abbrev lE:Ks.T Wj:=(3000,15000,100,50,10000000000,0,false,100000,1000)
abbrev aw0:Sk:=ii 1 1000 100000
abbrev Vf:Sk:=(eh aw0 100).2
theorem uW:bm (Vs none) aT (λr=>bh (r=(0,0,0,0,0,0,0,0,false,false)) aT):=
 br λw0 S R h=>by
  refine aA h λn w h=>ae (λ_=>?_) λc=>(by simp at c);refine aw h (by rfl) λw h=>ar (b:=n) (x:=((0,0,0,0,0,0,0,0,false,false):eH.St)) h rfl ?_;exact au.aE rfl h.fV
theorem FZ:bm (Wv none) aT (λr=>bh (r=0) aT):=
 br λw0 S R h=>by
  exact ae (λ_=>au.aE rfl h.fV) λc=>(by simp at c)
theorem An:bm (NR none) aT (λr=>bh (r=0) aT):=
 br λw0 S R h=>by
  exact ae (λ_=>au.aE rfl h.fV) λc=>(by simp at c)
theorem G2:bm (II none) aT (λr=>bh (r=0) aT):=
 br λw0 S R h=>by
  exact ae (λ_=>au.aE rfl h.fV) λc=>(by simp at c)
theorem Ay:bm (Ww none) aT (λr=>bh (r=0) aT):=
 br λw0 S R h=>by
  exact ae (λ_=>au.aE rfl h.fV) λc=>(by simp at c)
end ta

namespace wT
open bB bi f_ eA fZ eH dY fk dZ eS ki mi nD nF lj qX mj ml nG
def xq:List Pc→Int
 |[]=>0
 |p::l=>(if kW p then w8 p-iA p else 0)+xq l
theorem DL:∀(l:List Pc),mQ l→∀(n:Int),0≤n→n+65536*(l.length:Int)<18446744073709551616→l.foldl tJ n=n+xq l
 |[],_,n,_,_=>by show n=n+0;omega
 |p::l,h,n,h0,h1=>by
  have hp:=h p (qz ..);have a1:=hp.ft;have a2:=hp.le;rw[kS]at h1;have e:tJ n p=n+(if kW p then w8 p-iA p else 0):=by
   unfold tJ;split
   ·rw[wu (n:=w8 p-iA p) (by omega) (by omega)];exact wu (by omega) (by omega)
   ·omega
  have hb:0≤(if kW p=true then w8 p-iA p else 0)∧(if kW p=true then w8 p-iA p else 0)≤65536:=by split<;>omega
  rw[Cq,DL l (λq hq=>h q (nS _ hq)) _ (by rw[e];omega) (by rw[e];omega),e,xq];omega
theorem pg{l:List Pc}(h:mQ l)(hl:l.length≤4096):dh l=xq l:=by
 have:=DL l h 0 (by decide) (by omega);rw[dh,this];omega
theorem Hu:∀(l m:List Pc),xq (l++m)=xq l+xq m
 |[],m=>by show xq m=0+xq m;omega
 |p::l,m=>by show _+xq (l++m)=_+xq l+xq m;rw[Hu l m];omega
theorem QE:∀{l:List Pc},mQ l→0≤xq l∧xq l≤65536*(l.length:Int)
 |[],_=>by show(0:Int)≤0∧(0:Int)≤65536*(0:Nat);omega
 |p::l,h=>by
  have hp:=h p (qz ..);have a1:=hp.ft;have a2:=hp.le;have:=QE (l:=l) (λq hq=>h q (nS _ hq));have hb:0≤(if kW p=true then w8 p-iA p else 0)∧(if kW p=true then w8 p-iA p else 0)≤65536:=by split<;>omega
  rw[kS,xq];omega
theorem Hv:∀{l:List Pc} {i:Nat} {p:Pc} (q:Pc),l[i]?=some p→xq (l.set i q)=xq l-(if kW p then w8 p-iA p else 0)+(if kW q then w8 q-iA q else 0)
 |[],i,p,q,h=>by cases h
 |a::l,0,p,q,h=>by
  cases h;show _+xq l=(_+xq l)-_+_;omega
 |a::l,i+1,p,q,h=>by
  have:=Hv (l:=l) (i:=i) (p:=p) q WR;show _+xq (l.set i q)=(_+xq l)-_+_;rw[this];omega
theorem sm{α:Type}{f:α→Bool}{xs:List α}(h:¬fI f xs<0):∃x,xs[(fI f xs).toNat]?=some x∧f x=true:=by
 unfold fI at h⊢;split at h
 ·rename_i i hi;obtain⟨hl,hp,_⟩:=Em.1 hi;exact⟨xs[i],by simp[jG hl],hp⟩
 ·exact absurd (by decide:(-1:Int)<0) h
theorem HL{l:List Pc}(h:(bx l).2=true):∃i p,l[i]?=some p∧jr p=true∧(bx l).1=(iA p,w8 p)∧∀s,dw l s=l.set i (lW p s):=by
 have hi:¬fI jr l<0:=λhc=>by rw[rC hc]at h;cases h
 obtain⟨p,hp,hl⟩:=sm hi;refine⟨(fI jr l).toNat,p,hp,hl,?_,λs=>?_⟩
 ·unfold bx;rw[hp];dsimp only;rw[if_neg hi]
 ·unfold dw;rw[hp];dsimp only;rw[if_neg hi]
theorem J8{l:List Pc}(hl:mQ l)(h:(bx l).2=true)(s:BB):xq (dw l s)=xq l+((bx l).1.2-(bx l).1.1)∧1≤(bx l).1.2-(bx l).1.1:=by
 obtain⟨i,p,hp,hlo,e1,e2⟩:=HL h;have ho:=hl p (kQ hp);have hsk:=ho.x hlo;have h1:=ho.ft;have f1:kW p=false:=by unfold kW;rw[hlo];simp
 have f2:kW (lW p s)=true:=by
  show(!(xI p)&&!false)=true;rw[hsk];rfl
 rw[e2,Hv _ hp,e1,f1,f2];refine⟨?_,by show 1≤w8 p-iA p;omega⟩;show xq l-0+(w8 p-iA p)=xq l+(w8 p-iA p);omega
theorem Pz{v:Sk}(h:(dI v).1=0):cK v<v.md.cv∧v.out<gP v.md.aQ (bp v) v.cap:=by
 unfold dI at h;split at h
 ·cases h
 ·split at h
  ·cases h
  ·rename_i c;exact Cn.1 c
structure U7(v' v:Sk):Prop where
 id:v'.id=v.id
 bn:v'.bn=v.bn
 cap:v'.cap=v.cap
 bf:v'.bf=v.bf
 bd:v'.bd=v.bd
 md:v'.md=v.md
 out:v'.out=v.out
 nx:v'.nx=v.nx
theorem D0(v:Sk):U7 (dI v).2 v:=by
 unfold dI;split
 ·dsimp only;split<;>exact⟨rfl,rfl,rfl,rfl,rfl,rfl,rfl,rfl⟩
 ·split
  ·exact⟨rfl,rfl,rfl,rfl,rfl,rfl,rfl,rfl⟩
  ·split<;>exact⟨rfl,rfl,rfl,rfl,rfl,rfl,rfl,rfl⟩
theorem Lh{v:Sk}{ao:Int}(h:(bY v ao).1.2=0):(dI v).1=0:=by
 by_cases hm:(dI v).1=0
 ·exact hm
 ·unfold bY at h;rw[aC hm]at h;exact h
abbrev gN(g:Sg):Int:=g.2.2.1
abbrev gF(g:Sg):Int:=g.2.1
abbrev gS(g:Sg):Int:=g.2.2.2.1
abbrev gA(g:Sg):Bool:=g.2.2.2.2
structure Ip(v:Sk)(ao:Int)(g:Sg)(v':Sk):Prop where
 n:1≤gN g∧gN g≤65536
 id:g.1=v.id
 st:gS g=if v.nx>ao then v.nx else ao
 out:v'.out=v.out+gN g
 fl:cK v'=cK v+gN g
 cv:cK v<v.md.cv
 lim:v.out<gP v.md.aQ (bp v) v.cap
 md:v'.md=v.md
 Ar:v'.id=v.id
 bn:v'.bn=v.bn
 cap:v'.cap=v.cap
 nx:v'.nx=bA (gS g) (dJ (gN g) v.md.aQ)
 new:gA g=false→gF g=bN v.bf∧v'.bf=(bW v.bf,bN v.bf+gN g,bU v.bf,bL v.bf)∧(bx v.bd.1).2=false∧gN g=ka v∧v'.bd=(v.bd.1++[t9 (gF g) (gF g+gN g) (jm v.sp ao (cK v)).1],gF g+gN g)
 Mf:gA g=true→v'.bf=v.bf∧bx v.bd.1=((gF g,gF g+gN g),true)∧v'.bd=(dw v.bd.1 (jm v.sp ao (cK v)).1,v.bd.2)
theorem AL{k:Int}{v:Sk}(h:mc k v){ao:Int}(hn:U ao)(he:(bY v ao).1.2=0):Ip v ao (bY v ao).1.1 (bY v ao).2:=by
 have hm:=Lh he;obtain⟨m1,m2⟩:=Pz hm;have hbl:=h.ok.bl;have e:bY v ao=(((uo v ao).1,0),(uo v ao).2):=by unfold bY;rw[ay (λc=>c hm)]
 rw[e];dsimp only;cases hl:(bx v.bd.1).2 with
 |true=>
  have hp:=D9 h hn;obtain⟨f1,f2⟩:=J8 h.pc hl (jm v.sp ao (cK v)).1;obtain⟨_,f3⟩:=pq h.pc hl;rw[Lu v ao hl];have hF:cK (T4 v ao)=cK v+((bx v.bd.1).1.2-(bx v.bd.1).1.1):=by
   show dh (dw v.bd.1 _)=dh v.bd.1+_;rw[pg hp.pc hp.ok.bl,pg h.pc h.ok.bl];exact f1
  exact⟨⟨f2,f3⟩,rfl,rfl,rfl,hF,m1,m2,rfl,rfl,rfl,rfl,rfl,λc=>(by cases c),λ_=>⟨rfl,by
   show bx v.bd.1=(((bx v.bd.1).1.1,(bx v.bd.1).1.1+((bx v.bd.1).1.2-(bx v.bd.1).1.1)),true);rw[show(bx v.bd.1).1.1+((bx v.bd.1).1.2-(bx v.bd.1).1.1)=(bx v.bd.1).1.2 by omega];exact wC rfl hl,rfl⟩⟩
 |false=>
  obtain⟨g1,g2⟩:=B5 hm hl;have hc:=Ho h g1;have hp:=D4 h hn hm hl;rw[Lt h ao hm hl];have hw:bN v.bf+ka v-bN v.bf=ka v:=by omega
  have hF:cK (T1 v ao)=cK v+(bN v.bf+ka v-bN v.bf):=by
   show dh (v.bd.1++[_])=dh v.bd.1+_;rw[pg hp.pc hp.ok.bl,pg h.pc h.ok.bl,Hu];show _+(bN v.bf+ka v-bN v.bf+0)=_;omega
  refine⟨⟨by show 1≤bN v.bf+ka v-bN v.bf;omega,by show bN v.bf+ka v-bN v.bf≤65536;omega⟩,rfl,rfl,rfl,hF,m1,m2,rfl,rfl,rfl,rfl,rfl,λ_=>⟨rfl,?_,hl,hw,?_⟩,λc=>(by cases c)⟩
  ·show(bW v.bf,bN v.bf+ka v,bU v.bf,bL v.bf)=(bW v.bf,bN v.bf+(bN v.bf+ka v-bN v.bf),bU v.bf,bL v.bf);rw[hw]
  ·show(v.bd.1++[t9 (bN v.bf) (bN v.bf+ka v) _],bN v.bf+ka v)=(v.bd.1++[t9 (bN v.bf) (bN v.bf+(bN v.bf+ka v-bN v.bf)) _],bN v.bf+(bN v.bf+ka v-bN v.bf));rw[hw]
end wT

namespace lL
open bB bi f_ eA fZ eH dY fk dZ eS ki mi nD nF lj qX mj wS ml De nG ta wT
theorem GJ(aQ tso most:Int)(hr:U aQ)(ht:0≤tso∧tso≤65536)(hm:-9223372036854775808≤most∧most<9223372036854775808):bm (SE aQ tso most) aT (λr=>bh (r=gP aQ tso most) aT):=
 br λw0 S R h=>by
  unfold U at hr;have e1:IntKind.u64.wrap (if tso>(0:Int)then tso else(0:Int))=tso:=by
   rw[show(if tso>(0:Int)then tso else(0:Int))=tso by split<;>omega];exact wu (by omega) (by omega)
  have e2:IntKind.u64.wrap (if most>(0:Int)then most else(0:Int))=(if most>(0:Int)then most else(0:Int)):=wu (by split<;>omega) (by split<;>omega);have e3:IntKind.u64.wrap (aQ.tdiv 1024)=aQ/1024:=by rw[lP hr.1];exact wu (by omega) (by omega)
  rw[e1,e2,e3];refine af (vt 2 tso (aX 2) ⟨by omega,by omega⟩) (h.le (aF _)) λr w h=>?_;obtain⟨hr,h⟩:=h.aB;rw[hr];have e4:qK 2 tso=2*tso:=by unfold qK;rw[aC (by omega)]
  rw[e4];refine au.aE ?_ h.fV;obtain⟨mx,hmx⟩:∃mx,mx=if most>(0:Int)then most else(0:Int):=⟨_,rfl⟩
  rw[←hmx];obtain⟨z,hz⟩:∃z,z=if mx<aQ/1024 then mx else aQ/1024:=⟨_,rfl⟩
  rw[←hz];unfold gP jg;have hm0:0≤mx:=by rw[hmx];split<;>omega
  have:0≤z:=by rw[hz];split<;>omega
  have e5:(if 2*tso≤0 then 0 else 2*tso)=2*tso:=by split<;>omega
  rw[e5];by_cases hp:most>0
  ·rw[aC hp]at hmx;rw[hmx]at hz;rw[←hz];by_cases c2:z>2*tso
   ·rw[aC c2,ay (Int.not_le.2 c2)]
   ·rw[ay c2,aC (Int.not_lt.1 c2)]
  ·rw[ay hp]at hmx;have hz0:z=0:=by rw[hz,hmx];split<;>omega
   have hle:(if most<aQ/1024 then most else aQ/1024)≤2*tso:=(by split<;>omega);rw[aC hle,ay (by omega)]
structure oH(k:Int)(v:Sk):Prop where
 i:mc k v
 kr:0≤k∧k≤1000000
 g:pG v.sp=0
 b:C5.Bd v.md ((k+1)*1073741824)
theorem He(a b:Int):bA a b≤a+b∨bA a b≤18446744073709551615∧a+b>18446744073709551615:=by unfold bA;split<;>omega
theorem Qz(ao:Int):∀(l:List Pc) (s:Sp),mQ l→pG s+65536*(l.length:Int)<18446744073709551616→pG (qG ao s l)≤pG s+65536*(l.length:Int)
 |[],s,_,_=>by show pG s≤pG s+65536*((0:Nat):Int);omega
 |q::l,s,h,hb=>by
  have hq:=h q (qz ..);have h1:=hq.ft;have h2:=hq.le;rw[kS]at hb⊢;have e:pG (rV ao s q)≤pG s+65536:=by
   have e1:IntKind.u64.wrap (w8 q-iA q)=w8 q-iA q:=wu (by omega) (by omega);have e2:pG (rV ao s q)=bA (pG s) (IntKind.u64.wrap (w8 q-iA q)):=by
    unfold rV xp;split<;>rfl
   rw[e2,e1];unfold bA;split<;>omega
  have:=Qz ao l (rV ao s q) (λr hr=>h r (nS _ hr)) (by omega);show pG (qG ao (rV ao s q) l)≤_;omega
theorem Lo{k:Int}{v:Sk}(h:mc k v):0≤cK v∧cK v≤268435456:=by
 have h1:=QE h.pc;have h2:=h.ok.bl;unfold cK;rw[pg h.pc h.ok.bl];omega
theorem HI{k:Int}{v:Sk}(h:mc k v)(hk:0≤k∧k≤1000000)(hg:pG v.sp≤268435456)(hb:C5.Bd v.md ((k+1)*1073741824)){ao be:Int}(hn:U ao)(hl:U be):pG (jz v ao be).sp=0∧C5.Bd (jz v ao be).md ((k+1+1)*1073741824):=by
 have ht:=xO h.ok.sp hn hl h.ok.fl;have hf:=Lo h;have hm:=h.ok.md.bn;obtain⟨b1,b2⟩:=C5.V8 hb h.ok.md ⟨by omega,by omega⟩ (by omega) ht (bp v);have ha:fj (fN v.sp ao be (cK v)).1≤268435456:=by
  unfold fN;split
  ·exact hg
  ·show(0:Int)≤_;decide
 have hfl:kd (fN v.sp ao be (cK v)).1=cK v:=by unfold fN;split<;>rfl
 refine⟨rfl,⟨?_,by show(oP v.md (fN v.sp ao be (cK v)).1 (bp v)).gq≤_;omega⟩⟩;show(oP v.md (fN v.sp ao be (cK v)).1 (bp v)).cv≤_;rcases b1 with b|b
 ·have:=He ((k+1)*1073741824) (fj (fN v.sp ao be (cK v)).1);omega
 ·have:=He (kd (fN v.sp ao be (cK v)).1) (fj (fN v.sp ao be (cK v)).1);omega
theorem Qn{m:Md}{a b:Int}(h:C5.Bd m a)(hab:a≤b):C5.Bd m b:=⟨wo h.cv hab,wo h.gq hab⟩
theorem PE(id bn cap:Int)(hc:-9223372036854775808≤cap∧cap<9223372036854775808):oH 0 (ii id bn cap) where
 i:=PD id bn cap hc
 kr:=by decide
 g:=rfl
 b:=by
  have:=HO (bc bn);exact⟨by show 10*mJ (bc bn)≤(0+1)*1073741824;omega,by show(0:Int)≤(0+1)*1073741824;decide⟩
theorem oH.up{k:Int}{v v':Sk}(h:oH k v)(hk:k<1000000)(hi:mc (k+1) v')(hg:pG v'.sp=pG v.sp)(hm:v'.md=v.md):oH (k+1) v':=
 {i:=hi,kr:=by have:=h.kr;omega,g:=hg.trans h.g,b:=by rw[hm];exact Qn h.b (by omega)}
theorem VM(v:Sk):pG (dI v).2.sp=pG v.sp:=by
 unfold dI;split
 ·dsimp only;split<;>rfl
 ·split
  ·rfl
  ·split<;>rfl
theorem H6(s:Sp)(ao f:Int):pG (gu s ao f)=pG s:=by unfold gu;split<;>rfl
theorem Ld(v:Sk)(ao:Int):pG (bY v ao).2.sp=pG v.sp∧(bY v ao).2.md=v.md:=by
 unfold bY;split
 ·exact⟨VM v,(D0 v).md⟩
 ·show pG (uo v ao).2.sp=pG v.sp∧(uo v ao).2.md=v.md;unfold uo;split
  ·exact⟨H6 _ _ _,rfl⟩
  ·exact⟨H6 _ _ _,rfl⟩
theorem oH.write{k:Int}{v:Sk}(h:oH k v)(hk:k<1000000)(n:Int):oH (k+1) (eh v n).2:=
 h.up hk (h.i.write (by omega) n) rfl rfl
theorem oH.done{k:Int}{v:Sk}(h:oH k v)(hk:k<1000000)(n:Int):oH (k+1) (b_ v n).2:=
 h.up hk ((h.i.done n).le (by omega)) (by unfold b_;split<;>rfl) (by unfold b_;split<;>rfl)
theorem oH.le1{k:Int}{v:Sk}(h:oH k v)(hk:k<1000000):oH (k+1) v:=h.up hk (h.i.le (by omega)) rfl rfl
theorem oH.xr{k:Int}{v:Sk}(h:oH k v)(hk:k<1000000){ao:Int}(hn:U ao):oH (k+1) (ie v ao):=by
 have hi:mc k {v with bd:=(v.bd.1.map eX,v.bd.2)}:={ok:=oM.xr h.i.ok,pc:=Ed h.i.pc,e:=h.i.e,w:=h.i.w,o:=h.i.o};obtain⟨a,b⟩:=HI hi h.kr (by show pG v.sp≤_;rw[h.g];decide) h.b hn (uK v.bd.1);exact{i:=(h.i.xr hn).le (by omega),kr:=by have:=h.kr;omega,g:=a,b:=b}
theorem oH.Dh{k:Int}{v:Sk}(h:oH k v)(hk:k<1000000){ao:Int}(hn:U ao)(upto:Int)(xs:List (Int×Int)):oH (k+1) (nH v ao upto xs).2:=by
 by_cases hm:tZ v.bd upto xs=true
 ·have hi:mc k (kz v ao upto xs):=by
   obtain⟨e1,e2⟩:=W8 v.bf upto;exact{ok:=z0 h.i.ok h.i.ps hn upto xs,pc:=Ee (Mm h.i.pc upto xs),e:=by show v.bd.2=bN (sV v.bf upto).2;rw[e1];exact h.i.e,w:=by show bW (sV v.bf upto).2≤_;rw[e2];exact h.i.w,o:=h.i.o}
  have hto:mQ (fD upto xs v.bd.1):=λq hq=>h.i.pc q (tv.1 hq).1;have hlen:(fD upto xs v.bd.1).length≤4096:=lQ (y_ _ _) h.i.ok.bl;have hg:pG (kz v ao upto xs).sp≤268435456:=by
   show pG (qG ao v.sp (fD upto xs v.bd.1))≤_;have:=Qz ao (fD upto xs v.bd.1) v.sp hto (by rw[h.g];omega);rw[h.g]at this;omega
  obtain⟨a,b⟩:=HI hi h.kr hg h.b hn (yT (eD upto xs v.bd.1));have e:(nH v ao upto xs).2=jz (kz v ao upto xs) ao (cm (eD upto xs v.bd.1)).2.1:=by unfold nH;rw[aC hm]
  rw[e];exact{i:=(A2 hi hn (yT _)).le (by omega),kr:=by have:=h.kr;omega,g:=a,b:=b}
 ·have e:(nH v ao upto xs).2=v:=by unfold nH;rw[ay hm]
  rw[e];exact h.le1 hk
end lL

namespace UY
open bB
abbrev Cf:=Int×Int×Int×Int×Int×Int×Bool×Int×Int
abbrev KC:Ks:=[.int .i64,.int .i64,.int .i64,.int .i64,.int .u64,.int .u64,.bool,.int .i64,.int .i64]
abbrev cQ(c:Cf):Int:=c.1
abbrev cF(c:Cf):Int:=c.2.1
abbrev cL(c:Cf):Int:=c.2.2.1
abbrev cW(c:Cf):Int:=c.2.2.2.1
abbrev cH(c:Cf):Int:=c.2.2.2.2.1
abbrev cR(c:Cf):Int:=c.2.2.2.2.2.1
abbrev cD(c:Cf):Bool:=c.2.2.2.2.2.2.1
abbrev dM(c:Cf):Int:=c.2.2.2.2.2.2.2.1
abbrev eF(c:Cf):Int:=c.2.2.2.2.2.2.2.2
def may(c:Cf):Bool:=decide (100≤cQ c∧cQ c≤65536)&&(decide (100≤cF c∧cF c≤65536)&&(decide (1≤cL c∧cL c≤512)&&(decide (1≤cW c∧cW c≤512)&&(decide (cH c≤4611686018427387904)&&(decide (1≤dM c∧dM c≤1073741824)&&decide (100≤eF c∧eF c≤9000))))))
structure Af(c:Cf):Prop where
 q:100≤cQ c∧cQ c≤65536
 f:100≤cF c∧cF c≤65536
 l:1≤cL c∧cL c≤512
 w:1≤cW c∧cW c≤512
 h:0≤cH c∧cH c≤4611686018427387904
 r:U (cR c)
 cap:1≤dM c∧dM c≤1073741824
 bn:100≤eF c∧eF c≤9000
abbrev lE:Cf:=(3000,15000,100,50,10000000000,0,false,100000,1000)
def nb(d:Cf):Cf:=((if 100≤cQ d∧cQ d≤65536 then cQ d else 3000),(if 100≤cF d∧cF d≤65536 then cF d else 15000),(if 1≤cL d∧cL d≤512 then cL d else 100),(if 1≤cW d∧cW d≤512 then cW d else 50),(if cH d≤4611686018427387904 then cH d else 10000000000),(cR d),(cD d),(if 1≤dM d∧dM d≤1073741824 then dM d else 100000),(if 100≤eF d∧eF d≤9000 then eF d else 1000))
abbrev zC:List Lf:=[.int .i64 0,.int .i64 0,.int .i64 0,.int .i64 0,.int .u64 0,.int .u64 0,.bool false,.int .i64 0,.int .i64 0]
end UY

namespace Df
open bB bi f_ eA fZ eH dY fk dZ eS ki mi nD nF lj qX mj wS ml De nG ta wT lL
theorem xQ(p:Nat)(v:Sk)(hm:fP v.md):bm (II (some ⟨p,0⟩)) (kg p v) (λr=>bh (r=bp v) (kg p v)):=
 br λw0 S R h=>by
  refine ae (λc=>(by simp at c)) λ_=>?_;obtain⟨pb,pd,ps,x,h⟩:=(h.le (aF _)).kg p;refine aH h λw h=>ac (ac (aj h rfl (aj h rfl (af (uX x v.md) h λr w h=>?_))));obtain⟨hr,h⟩:=h.aB;rw[hr];refine aI h rfl (af (fk.xQ (Ac v.md).2.2.1 v.bn hm.aQ) h λr w h=>?_);obtain⟨hr,h⟩:=h.aB;rw[hr];exact au.aE rfl (h.kP p pb pd ps x v).aG
end Df

namespace z9
open bB bi lK iy fg
open dZ (Sk bY b_ eh ie ii)
abbrev Ct:=Int×Int×Int×Int×Int×Int×Int×Int
abbrev Fz:Ct:=(0,0,0,0,0,0,0,0)
abbrev sW(c:Ct):Int:=c.2.2.2.2.2.2.2
abbrev inc(n:Int):Int:=IntKind.i64.wrap (n+1)
abbrev dec(n:Int):Int:=IntKind.i64.wrap (n-1)
def Vv(c:Ct)(f:Int):Int:=if f=0 then c.2.1 else if f=1 then c.2.2.1 else if f=2 then c.2.2.2.1 else if f=3 then c.2.2.2.2.1 else if f=4 then c.2.2.2.2.2.1 else c.2.2.2.2.2.2.1
def tM(c:Ct)(f:Int):Ct:=
 if f=0 then(c.1,inc c.2.1,c.2.2.1,c.2.2.2.1,c.2.2.2.2.1,c.2.2.2.2.2.1,c.2.2.2.2.2.2.1,c.2.2.2.2.2.2.2)
 else if f=1 then(c.1,c.2.1,inc c.2.2.1,c.2.2.2.1,c.2.2.2.2.1,c.2.2.2.2.2.1,c.2.2.2.2.2.2.1,c.2.2.2.2.2.2.2)
 else if f=2 then(c.1,c.2.1,c.2.2.1,inc c.2.2.2.1,c.2.2.2.2.1,c.2.2.2.2.2.1,c.2.2.2.2.2.2.1,c.2.2.2.2.2.2.2)
 else if f=3 then(c.1,c.2.1,c.2.2.1,c.2.2.2.1,inc c.2.2.2.2.1,c.2.2.2.2.2.1,c.2.2.2.2.2.2.1,c.2.2.2.2.2.2.2)
 else if f=4 then(c.1,c.2.1,c.2.2.1,c.2.2.2.1,c.2.2.2.2.1,inc c.2.2.2.2.2.1,c.2.2.2.2.2.2.1,c.2.2.2.2.2.2.2)
 else(c.1,c.2.1,c.2.2.1,c.2.2.2.1,c.2.2.2.2.1,c.2.2.2.2.2.1,inc c.2.2.2.2.2.2.1,c.2.2.2.2.2.2.2)
abbrev wait(c:Ct)(q:Int):Ct:=(c.1,c.2.1,c.2.2.1,c.2.2.2.1,c.2.2.2.2.1,c.2.2.2.2.2.1,c.2.2.2.2.2.2.1,q)
def ik(c:Ct)(f:Int):Int×Ct:=
 if f<0∨f≥6 then(1,c)else if f=0 then(0,tM (wait c (inc (sW c))) f)else if sW c=0 then(7,c)else(0,tM (wait c (dec (sW c))) f)
def gy{α:Type}(l:Nat→α)(i:Nat)(x:α):Nat→α:=λj=>if j=i then x else l j
theorem e_{α:Type}(l:Nat→α)(i:Nat)(x:α):gy l i x i=x:=by simp[gy]
theorem jM{α:Type}(l:Nat→α){i j:Nat}(x:α)(h:j≠i):gy l i x j=l j:=by simp[gy,h]
theorem Nz{α:Type}(l:Nat→α)(i:Nat):gy l i (l i)=l:=funext λj=>by unfold gy;split<;>simp_all
def fT(l:Nat→Ct)(s f:Int):Int×(Nat→Ct):=if s<0∨s≥8 then(8,l)else((ik (l s.toNat) f).1,gy l s.toNat (ik (l s.toNat) f).2)
def jb(l:Nat→Ct)(s:Int):Ct:=if s<0∨s≥8 then Fz else(s,(l s.toNat).2)
structure Mc where
 c:Cf
 ao:Int
 so:Nat→Option Sk
 q:Qm
 l:Nat→Ct
abbrev sY(c:Cf):Mc:=⟨c,0,λ_=>none,B8 c,λ_=>Fz⟩
structure Ou where
 oa:List Sg
 dr:List Sg
 ft:List Int
 wd:Int
abbrev eQ:Ou:=⟨[],[],[],0⟩
def ig(ao kE:Int):Int×Int:=if kE>4611686018427387904 then(3,ao)else if kE<ao then(4,ao)else(0,kE)
def pz(x:Option Sk):Int:=match x with
 |none=>18446744073709551615
 |some v=>v.md.aQ
def bK(so:Nat→Option Sk):List Int:=[pz (so 0),pz (so 1),pz (so 2),pz (so 3),pz (so 4),pz (so 5),pz (so 6),pz (so 7)]
def fy(v:Mc)(o:Ou):Ou×Mc:=
 match jw v.q v.ao (bK v.so)with
 |(some s,q)=>({o with oa:=[s]},{v with q:=q,l:=(fT v.l (sK s) 1).2})
 |(none,q)=>(if(ni q.ks).2 then{o with wd:=if 1>(ni q.ks).1.1 then 1 else(ni q.ks).1.1}else o,{v with q:=q})
def qO(v:Mc)(c:Cf):Int×Mc:=if(qg v.q c).1=0 then(0,{v with q:=(qg v.q c).2,c:=c})else((qg v.q c).1,{v with q:=(qg v.q c).2})
def cd(l:Nat→Ct)(o:Ou)(s:Sg)(f:Int):Ou×(Nat→Ct):=({o with dr:=o.dr++[s],ft:=o.ft++[f]},(fT l (sK s) f).2)
structure Pm where
 v:Sk
 q:Qm
 l:Nat→Ct
 o:Ou
def fresh(v:Sk):Nat:=(bW v.bf-bN v.bf).toNat+v.bd.1.countP (λp=>eA.jr p)
where
 bW (b:dY.Bf):Int:=b.1
 bN (b:dY.Bf):Int:=b.2.1
def enter(i ao:Int)(s:Pm):Pm×Int:=
 let g:=(bY s.v ao).1.1
 let e:=fo s.q g ao
 if e.1.1=0 then(⟨(bY s.v ao).2,e.2,(fT s.l i 0).2,s.o⟩,0)
 else(⟨(b_ (bY s.v ao).2 g.2.2.1).2,e.2,(cd (fT s.l i 0).2 s.o g e.1.1).2,(cd (fT s.l i 0).2 s.o g e.1.1).1⟩,1)
def mC(i ao:Int):Nat→Pm→Pm
 |0,s=>s
 |k+1,s=>if(bY s.v ao).1.2≠0 then{s with v:=(bY s.v ao).2}else if(enter i ao s).2=0 then mC i ao k (enter i ao s).1 else(enter i ao s).1
def oA(i ao:Int)(s:Pm):Pm:=mC i ao (fresh s.v+1) s
def lO(v:Mc)(i:Nat)(x:Sk)(o:Ou):Ou×Mc:=
 ((oA i v.ao ⟨x,v.q,v.l,o⟩).o,{v with so:=gy v.so i (some (oA i v.ao ⟨x,v.q,v.l,o⟩).v),q:=(oA i v.ao ⟨x,v.q,v.l,o⟩).q,l:=(oA i v.ao ⟨x,v.q,v.l,o⟩).l})
def cV(l:Nat→Ct)(o:Ou):List Sg→Ou×(Nat→Ct)
 |[]=>(o,l)
 |s::ss=>cV (cd l o s 5).2 (cd l o s 5).1 ss
def nW(v:Mc)(i:Nat)(o:Ou):Ou×Mc:=
 ((cV v.l o (cw v.q i).1).1,{v with so:=gy v.so i none,q:=(cw v.q i).2,l:=(cV v.l o (cw v.q i).1).2})
abbrev KD:Ks:=[.int .i64,.int .i64,.int .i64,.int .u64,.int .u64,.sl,.int .i64,.int .i64,.int .i64,.int .i64,.int .u64,.int .u64,.bool,.int .i64,.int .i64]
abbrev Dd:=Ks.T KD
abbrev dK(d:Dd):Int:=d.1
abbrev dS(d:Dd):Int:=d.2.1
abbrev dL(d:Dd):Int:=d.2.2.1
abbrev dU(d:Dd):Int:=d.2.2.2.1
abbrev dA(d:Dd):Int:=d.2.2.2.2.1
abbrev dR(d:Dd):Sl:=d.2.2.2.2.2.1
abbrev dC(d:Dd):Cf:=d.2.2.2.2.2.2
def dn(v:Sk)(ao:Int)(d:Dd)(xs:List (Int×Int)):Int×Sk:=
 if dK d=2 then eh v (dL d)else if dK d=3 then ml.nH v ao (dU d) xs else if dK d=4 then(0,ie v ao)else b_ v (dL d)
def iM(v:Mc)(d:Dd)(xs:List (Int×Int))(o:Ou):Int×Ou×Mc:=
 if ¬(0≤dS d∧dS d<8)then(8,o,v)
 else match v.so (dS d).toNat with
  |none=>if dK d=1 then(0,o,{v with so:=gy v.so (dS d).toNat (some (ii (dS d) (eF v.c) (dM v.c)))})else(10,o,v)
  |some x=>if dK d=1 then(9,o,v)else if dK d=9 then(0,(nW v (dS d).toNat o).1,(nW v (dS d).toNat o).2)
   else if(dn x v.ao d xs).1=0 then(0,(lO v (dS d).toNat (dn x v.ao d xs).2 o).1,(lO v (dS d).toNat (dn x v.ao d xs).2 o).2)
   else((dn x v.ao d xs).1,o,{v with so:=gy v.so (dS d).toNat (some (dn x v.ao d xs).2)})
def uS(k:Int):Bool:=k==1||k==2||k==3||k==4||k==7||k==9
def dT(v:Mc)(d:Dd)(xs:List (Int×Int)):Int×Ou×Mc:=
 if dK d=5 then((ig v.ao (dA d)).1,eQ,{v with ao:=(ig v.ao (dA d)).2})
 else if dK d=6 then(0,(fy v eQ).1,(fy v eQ).2)
 else if dK d=8 then((qO v (dC d)).1,eQ,(qO v (dC d)).2)
 else if uS (dK d)then iM v d xs eQ
 else(12,eQ,v)
def mH(v:Mc)(d:Dd)(xs:List (Int×Int)):(Ou×Int)×Mc:=
 if(dT v d xs).1≠0 then((eQ,(dT v d xs).1),(dT v d xs).2.2)else(((dT v d xs).2.1,0),(dT v d xs).2.2)
end z9

namespace Bw
open bB bi lK z9
theorem pf(s:Sl)(t:Int):bm (XM s) (aT^ba s KU [t]) (λr=>bh (r=if t≥4611686018427387904 then 4611686018427387904 else t) aT):=
 br λw0 S R h=>by
  have h:au w0 S R w0 (ba s KU [t]^aT):=h.aG;have hs:s.len=1:=(h.rd (s:=s)).2;have e1:IntKind.i64.wrap ((0:Int)+1)=1:=rfl;refine cS (λ_:Int×Int=>ba s KU [t]^aT) (λy:Int×Int=>y=(4611686018427387904,0)∨y=((if t≥4611686018427387904 then 4611686018427387904 else t),1)) (λy:Int×Int=>(1-y.2).toNat) h (.inl rfl) ?_;rintro(y:Int×Int) w hy h;rcases hy with rfl|rfl
  ·refine ae (λ_=>?_) λc=>(by rw[hs]at c;cases c);refine bR (s:=s) h (by decide) (by simp) (dW h s 0 (y:=t) rfl rfl ?_);dsimp only;rw[e1];refine ae (λc=>?_) λc=>?_
   ·have c:t≥4611686018427387904:=bJ c;exact⟨⟨.inr (by rw[aC c]),h⟩,by show(1-(1:Int)).toNat<(1-(0:Int)).toNat;decide⟩
   ·have c:¬t≥4611686018427387904:=bQ c;exact⟨⟨.inr (by rw[ay c]),h⟩,by show(1-(1:Int)).toNat<(1-(0:Int)).toNat;decide⟩
  ·refine ae (λc=>(by rw[hs]at c;cases c)) λ_=>?_;exact au.aE rfl h.fV
theorem yj:bm (Xq 0) aT (λr=>ex λb:Nat=>bh (r=some ⟨b,0⟩) (ah b [.int .u64 0])):=
 br λw0 S R h=>by
  refine aA (h.le (aF _)) λn1 w h=>?_;have h:=h.cT n1 KU [0] rfl (by simp);have h:au w0 S R w (aP ⟨some ⟨n1,0⟩,1,1⟩ KU [0]^_):=h;refine bI (A:=aT) (Q:=ba ⟨some ⟨n1,0⟩,1,1⟩ KU [0]) (pf ⟨some ⟨n1,0⟩,1,1⟩ 0) (h.le ((aF _).trans (aV _ _))) λr w h=>?_;obtain⟨hr,h⟩:=h.aB;rw[hr];refine aA h λn3 w h=>?_;exact au.gX n3 (au.aE rfl h.bk)
theorem L2(b:Nat)(ao to':Int):bm (Xs (some ⟨b,0⟩) to') (ah b [.int .u64 ao]) (λr=>bh (r=(ig ao to').1) (ah b [.int .u64 (ig ao to').2])):=
 br λw0 S R h=>by
  refine ae (λc=>(by simp at c)) λ_=>ae (λc=>?_) λc=>?_
  ·have c:to'>4611686018427387904:=bJ c;rw[show ig ao to'=(3,ao) by unfold ig;rw[aC c]];exact au.aE rfl h
  ·have c:¬to'>4611686018427387904:=bQ c;refine ac (aj (x:=ao) h rfl (ae (λc2=>?_) λc2=>?_))
   ·have c2:to'<ao:=bJ c2;rw[show ig ao to'=(4,ao) by unfold ig;rw[ay c,aC c2]];exact au.aE rfl h
   ·have c2:¬to'<ao:=bQ c2;rw[show ig ao to'=(0,to') by unfold ig;rw[ay c,ay c2]];refine ac (aw h (by rfl) λw h=>?_);exact au.aE rfl h.aG
theorem HQ(b:Nat)(ao:Int):bm (Xx (some ⟨b,0⟩)) (ah b [.int .u64 ao]) (λr=>bh (r=ao) (ah b [.int .u64 ao])):=
 br λw0 S R h=>by
  refine ae (λc=>(by simp at c)) λ_=>ac (aj (x:=ao) h rfl ?_);exact au.aE rfl h
abbrev C8:Ks:=[.int .i64,.int .i64,.int .i64,.int .i64,.int .i64,.int .i64,.int .i64,.int .i64]
abbrev rows(l:Nat→Ct):List Ct:=[l 0,l 1,l 2,l 3,l 4,l 5,l 6,l 7]
theorem QM{i:Nat}(h:i<8):i=0∨i=1∨i=2∨i=3∨i=4∨i=5∨i=6∨i=7:=by omega
theorem sJ(l:Nat→Ct){i:Nat}(h:i<8):(rows l)[i]?=some (l i):=by
 rcases QM h with rfl|rfl|rfl|rfl|rfl|rfl|rfl|rfl<;>rfl
theorem M5(l:Nat→Ct){i:Nat}(x:Ct)(h:i<8):(rows l).set i x=rows (gy l i x):=by
 rcases QM h with rfl|rfl|rfl|rfl|rfl|rfl|rfl|rfl<;>rfl
def rz(b:Nat)(l:Nat→Ct):SP:=aP ⟨some ⟨b,0⟩,8,8⟩ C8 (rows l)
instance(b:Nat)(l:Nat→Ct):qq (rz b l):=by unfold rz;infer_instance
theorem yG:bm Xr aT (λr=>ex λb:Nat=>bh (r=some ⟨b,0⟩) (rz b (λ_=>Fz))):=
 br λw0 S R h=>by
  refine aA h λn1 w h=>?_;have h:=h.cT n1 C8 (rows (λ_=>Fz)) rfl (by simp);exact au.gX n1 (au.aE rfl (show au w0 S R w (rz n1 (λ_=>Fz)^aT)from h).bk)
theorem DW(b:Nat)(s:Int):bm (WA (some ⟨b,0⟩) s) aT (λr=>bh (r=if s<0∨s≥8 then 8 else 0) aT):=
 br λw0 S R h=>by
  refine ae (λc=>(by simp at c)) λ_=>ae (λc=>?_) λc=>?_
  ·have c:s<0∨s≥8:=bV;exact au.aE (by rw[aC c]) h
  ·have c:¬(s<0∨s≥8):=bV;exact au.aE (by rw[ay c]) h
theorem sf(b:Nat)(l:Nat→Ct)(s:Int):bm (Xy (some ⟨b,0⟩) s) (rz b l) (λr=>bh (r.1=jb l s) (rz b l)):=
 br λw0 S R h=>by
  have h:au w0 S R w0 (rz b l^aT):=h.le (aF _);refine aA h λn1 w h=>?_;refine af (DW b s) (h.le ((aF _).trans (aV _ _))) λr w h=>?_;obtain⟨hr,h⟩:=h.aB;rw[hr];refine ae (λc=>?_) λc=>?_
  ·by_cases c1:s<0∨s≥8
   ·refine aw h (by rfl) λw h=>ar (b:=n1) (x:=Fz) h rfl ?_;exact au.aE (by show Fz=_;unfold jb;rw[aC c1]) h.aG
   ·rw[ay c1]at c;cases c
  ·have c1:¬(s<0∨s≥8):=λx=>by rw[aC x]at c;cases c
   have hi:s.toNat<8:=(by omega);have h:au w0 S R w (aP ⟨some ⟨b,0⟩,8,8⟩ C8 (rows l)^ah n1 [.int .i64 0,.int .i64 0,.int .i64 0,.int .i64 0,.int .i64 0,.int .i64 0,.int .i64 0,.int .i64 0]^aT):=h.aG (A:=rz b l^ah n1 [.int .i64 0,.int .i64 0,.int .i64 0,.int .i64 0,.int .i64 0,.int .i64 0,.int .i64 0,.int .i64 0]^aT);refine ac ⟨by omega,dW h ⟨some ⟨b,0⟩,8,8⟩ s.toNat (sJ l hi) rfl (aA h λn6 w h=>aw h (by rfl) λw h=>?_)⟩;refine az h n6 (Ks.mk C8 (jb l s)) rfl rfl (by unfold jb;rw[ay c1];rfl) λw h=>?_;refine ar (b:=n6) (x:=jb l s) h rfl (aw h (by rfl) λw h=>ar (b:=n1) (x:=jb l s) h rfl ?_);exact au.aE rfl (h.aG (A:=aP ⟨some ⟨b,0⟩,8,8⟩ C8 (rows l)))
theorem QL{f:Int}(h:¬(f<0∨f≥6)):f=0∨f=1∨f=2∨f=3∨f=4∨f=5:=by omega
theorem yP(b:Nat)(l:Nat→Ct)(s f:Int):bm (QD (some ⟨b,0⟩) s f) (rz b l) (λr=>bh (r=(fT l s f).1) (rz b (fT l s f).2)):=
 br λw0 S R h=>by
  have h:au w0 S R w0 (rz b l^aT):=h.le (aF _);refine af (DW b s) (h.le ((aF _).trans (aV _ _))) λr w h=>?_;obtain⟨hr,h⟩:=h.aB;rw[hr];refine ae (λc=>?_) λc=>?_
  ·by_cases c1:s<0∨s≥8
   ·rw[show fT l s f=(8,l) by unfold fT;rw[aC c1],aC c1];exact au.aE rfl h.aG
   ·rw[ay c1]at c;cases c
  ·have c1:¬(s<0∨s≥8):=λx=>by rw[aC x]at c;cases c
   have hi:s.toNat<8:=(by omega);obtain⟨i,hii⟩:∃i,i=s.toNat:=⟨_,rfl⟩;have en:fT l s f=((ik (l i) f).1,gy l i (ik (l i) f).2):=(by unfold fT;rw[ay c1,hii]);rw[en,←hii];rw[←hii]at hi;have h:au w0 S R w (aP ⟨some ⟨b,0⟩,8,8⟩ C8 (rows l)^aT):=h.aG (A:=rz b l^aT);have toL:∀{w:World} (x:Ct),au w0 S R w (aP ⟨some ⟨b,0⟩,8,8⟩ C8 ((rows l).set i x)^aT)→au w0 S R w (rz b (gy l i x)):=λ{w} x h=>by
    rw[M5 l x hi]at h;exact h.bk
   have same:∀{w:World},au w0 S R w (aP ⟨some ⟨b,0⟩,8,8⟩ C8 (rows l)^aT)→au w0 S R w (rz b (gy l i (l i))):=λ{w} h=>by
    rw[Nz];exact h.bk
   refine ac ⟨by omega,?_⟩;by_cases c2:f<0∨f≥6
   ·have e1:ik (l i) f=(1,l i):=(by unfold ik;rw[aC c2]);rw[e1];refine⟨λ_ _=>False,λ_ _ hx=>hx.elim,?_⟩;refine ae (λ_=>au.aE rfl (same h)) λc=>?_;have c:¬(f<0∨f≥6):=bV;exact absurd c2 c
   ·have step:∀{w:World} (y z:Ct),(∀g,g=f→Ks.mk C8 z=eK (Ks.mk C8 y) (1+f.toNat) [.int .i64 (inc (Vv y f))])→au w0 S R w (aP ⟨some ⟨b,0⟩,8,8⟩ C8 ((rows l).set i y)^aT)→z=(ik (l i) f).2→(ik (l i) f).1=0→
      bF (deref (some ⟨b,0+i*8⟩) λq13=>deref (some ⟨b,0+i*8⟩) λq14=>d_ (0≤f∧f<6)<|ld [.int .i64] ⟨q13.b,q13.o+1+f.toNat*1⟩ λ(x15:Int)=>d_ (0≤f∧f<6)<|st ⟨q14.b,q14.o+1+f.toNat*1⟩ [.int .i64 (IntKind.i64.wrap (x15+(1:Int)))]<|λw'=>au w0 S R w' (bh ((0:Int)=(ik (l i) f).1) (rz b (gy l i (ik (l i) f).2)))) w:=by
     intro w y z hz h e0 e1;have hy:((rows l).set i y)[i]?=some y:=by rw[rJ (by show i<8;exact hi)]
     refine aH h λw h=>ac (ac ⟨by omega,?_⟩);refine eU h ⟨some ⟨b,0⟩,8,8⟩ i (1+f.toNat) y hy (by show(⟨b,0+i*8+1+f.toNat*1⟩:Pt)=⟨b,0+i*8+(1+f.toNat)⟩;rw[Nat.mul_one,Cz (0+i*8)]) (by show 1+f.toNat≤8;omega) (x:=Vv y f) (by
      rcases QL c2 with rfl|rfl|rfl|rfl|rfl|rfl<;>rfl) ?_
     refine⟨by omega,?_⟩;refine lT h ⟨some ⟨b,0⟩,8,8⟩ i (1+f.toNat) y z hy (by show(⟨b,0+i*8+1+f.toNat*1⟩:Pt)=⟨b,0+i*8+(1+f.toNat)⟩;rw[Nat.mul_one,Cz (0+i*8)]) (by show 1+f.toNat+1≤8;omega) (by simp) (hz f rfl) λw h=>?_;rw[Gu,e0]at h;exact au.aE e1.symm (toL _ h)
    refine aK h (λ_=>aP ⟨some ⟨b,0⟩,8,8⟩ C8 ((rows l).set i (if f=0 then wait (l i) (inc (sW (l i)))else wait (l i) (dec (sW (l i)))))^aT) (λ_=>f=0∨sW (l i)≠0) (λ_ w hj h=>?_) ?_
    ·by_cases c3:f=0
     ·rw[aC c3]at h;have e1:ik (l i) f=(0,tM (wait (l i) (inc (sW (l i)))) f):=by unfold ik;rw[ay c2,aC c3]
      refine step (wait (l i) (inc (sW (l i)))) (tM (wait (l i) (inc (sW (l i)))) f) (λ_ _=>?_) h (by rw[e1]) (by rw[e1]);rw[c3];rfl
     ·rw[ay c3]at h;have hw:¬sW (l i)=0:=λx=>hj.elim c3 λy=>y x;have e1:ik (l i) f=(0,tM (wait (l i) (dec (sW (l i)))) f):=by unfold ik;rw[ay c2,ay c3,ay hw]
      refine step (wait (l i) (dec (sW (l i)))) (tM (wait (l i) (dec (sW (l i)))) f) (λ_ _=>?_) h (by rw[e1]) (by rw[e1]);rcases QL c2 with rfl|rfl|rfl|rfl|rfl|rfl<;>rfl
    ·refine ae (λc=>?_) λ_=>?_
     ·have c:f<0∨f≥6:=bV;exact absurd c c2
     refine ae (λc3=>?_) λc3=>?_
     ·have c3:f=0:=(by simpa using c3);refine ac (eU h ⟨some ⟨b,0⟩,8,8⟩ i 7 (l i) (sJ l hi) rfl (by decide) (x:=sW (l i)) rfl (ac ?_));refine lT h ⟨some ⟨b,0⟩,8,8⟩ i 7 (l i) (wait (l i) (inc (sW (l i)))) (sJ l hi) rfl (by show 7+1≤8;decide) (by simp) rfl λw h=>?_;exact⟨.inl c3,by rw[aC c3];exact h⟩
     ·have c3:¬f=0:=(by simpa using c3);refine ac (eU h ⟨some ⟨b,0⟩,8,8⟩ i 7 (l i) (sJ l hi) rfl (by decide) (x:=sW (l i)) rfl ?_);refine ae (λc4=>?_) λc4=>?_
      ·have c4:sW (l i)=0:=(by simpa using c4);rw[show ik (l i) f=(7,l i) by unfold ik;rw[ay c2,ay c3,aC c4]];exact au.aE rfl (same h)
      ·have c4:¬sW (l i)=0:=(by simpa using c4);refine ac (eU h ⟨some ⟨b,0⟩,8,8⟩ i 7 (l i) (sJ l hi) rfl (by decide) (x:=sW (l i)) rfl (ac ?_));refine lT h ⟨some ⟨b,0⟩,8,8⟩ i 7 (l i) (wait (l i) (dec (sW (l i)))) (sJ l hi) rfl (by show 7+1≤8;decide) (by simp) rfl λw h=>?_;exact⟨.inr c4,by rw[ay c3];exact h⟩
end Bw

namespace Ae
open bB bi lK lV eS z9 Bw
open dZ (Sk bY b_ eh ie ii cK bp)
abbrev mL(c:Cf)(ck:Nat)(p:Nat→Option Pt)(q l:Nat):List Lf:=[.int .i64 (cQ c),.int .i64 (cF c),.int .i64 (cL c),.int .i64 (cW c),.int .u64 (cH c),.int .u64 (cR c),.bool (cD c),.int .i64 (dM c),.int .i64 (eF c),.ptr (some ⟨ck,0⟩),.ptr (p 0),.ptr (p 1),.ptr (p 2),.ptr (p 3),.ptr (p 4),.ptr (p 5),.ptr (p 6),.ptr (p 7),.ptr (some ⟨q,0⟩),.ptr (some ⟨l,0⟩)]
theorem LW(c:Cf)(ck:Nat)(p:Nat→Option Pt)(q l:Nat)(i:Nat)(hi:i<8):Ks.un [.ptr] (((mL c ck p q l).drop (0+10+i*1)).take 1)=some (p i):=by
 rcases QM hi with rfl|rfl|rfl|rfl|rfl|rfl|rfl|rfl<;>rfl
theorem QN(c:Cf)(ck:Nat)(p:Nat→Option Pt)(q l:Nat)(i:Nat)(hi:i<8)(x:Option Pt):dj (mL c ck p q l) (0+10+i*1) [.ptr x]=mL c ck (vI p i x) q l:=by
 rcases QM hi with rfl|rfl|rfl|rfl|rfl|rfl|rfl|rfl<;>rfl
def Qa(p:Option Pt)(x:Option Sk):SP:=match x with
 |none=>bh (p=none) aT
 |some f=>ex λa:Nat=>bh (p=some ⟨a,0⟩) (kg a f)
instance(p:Option Pt)(x:Option Sk):qq (Qa p x):=by unfold Qa;split<;>infer_instance
abbrev WQ(p:Nat→Option Pt)(fl:Nat→Option Sk):Nat→SP:=λj=>Qa (p j) (fl j)
abbrev ns(p:Nat→Option Pt)(fl:Nat→Option Sk):SP:=dV (WQ p fl) 8
abbrev uv(p:Nat→Option Pt)(fl:Nat→Option Sk)(i:Nat):SP:=dV (td (WQ p fl) i) 8
def dy(b:Nat)(v:Mc):SP:=ex λx:(Nat→Option Pt)×Nat×Nat×Nat=>ah b (mL v.c x.2.1 x.1 x.2.2.1 x.2.2.2)^ah x.2.1 [.int .u64 v.ao]^nX x.2.2.1 v.q^rz x.2.2.2 v.l^ns x.1 v.so
instance(b:Nat)(v:Mc):qq (dy b v):=by unfold dy;infer_instance
section
variable {w0 w:World} {S0 R0:Nat→Prop} {F G:SP}
theorem _root_.Go.X.au.dy(h:au w0 S0 R0 w F)(b:Nat){v:Mc}[tk:mR Ae.dy b F v G]:∃(p:Nat→Option Pt) (ck q l:Nat),au w0 S0 R0 w (ah b (mL v.c ck p q l)^ah ck [.int .u64 v.ao]^nX q v.q^rz l v.l^ns p v.so^G):=by
 obtain⟨s,h⟩:=(h.le tk.le).lX;exact⟨s.1,s.2.1,s.2.2.1,s.2.2.2,h.aG⟩
theorem _root_.Go.X.au.gg(h:au w0 S0 R0 w F)(b:Nat)(p:Nat→Option Pt)(ck q l:Nat)(v:Mc)[tk:Take (ah b (mL v.c ck p q l)^ah ck [.int .u64 v.ao]^nX q v.q^rz l v.l^ns p v.so) F G]:au w0 S0 R0 w (Ae.dy b v^G):=
 au.s_ (f:=λx:(Nat→Option Pt)×Nat×Nat×Nat=>ah b (mL v.c x.2.1 x.1 x.2.2.1 x.2.2.2)^ah x.2.1 [.int .u64 v.ao]^nX x.2.2.1 v.q^rz x.2.2.2 v.l^ns x.1 v.so) (p,ck,q,l) (h.le tk.le)
theorem _root_.Go.X.au.FY(h:au w0 S0 R0 w F)(p:Nat→Option Pt)(fl:Nat→Option Sk){i:Nat}(hi:i<8){f:Sk}(hf:fl i=some f)[tk:Take (ns p fl) F G]:∃a,p i=some ⟨a,0⟩∧au w0 S0 R0 w (kg a f^uv p fl i^G):=by
 have h:au w0 S0 R0 w ((Qa (p i) (fl i)^uv p fl i)^G):=(h.le tk.le).le (aZ (oq _ hi) Le.rfl);have h:=h.le (cy _ _ _);rw[hf]at h;obtain⟨a,h⟩:=au.lX (f:=λa:Nat=>bh (p i=some ⟨a,0⟩) (kg a f)) h;obtain⟨hp,h⟩:=h.aB;exact⟨a,hp,h⟩
theorem _root_.Go.X.au.UO(h:au w0 S0 R0 w F)(p:Nat→Option Pt)(fl:Nat→Option Sk){i:Nat}(hi:i<8)(hf:fl i=none)[tk:Take (ns p fl) F G]:p i=none∧au w0 S0 R0 w (uv p fl i^G):=by
 have h:au w0 S0 R0 w ((Qa (p i) (fl i)^uv p fl i)^G):=(h.le tk.le).le (aZ (oq _ hi) Le.rfl);have h:=h.le (cy _ _ _);rw[hf]at h;obtain⟨hp,h⟩:=au.aB (p:=p i=none) (A:=aT) h;exact⟨hp,h.drop⟩
theorem Hj(p q:Nat→Option Pt)(fl gl:Nat→Option Sk)(i:Nat)(hp:∀j,j≠i→q j=p j)(hf:∀j,j≠i→gl j=fl j):uv q gl i=uv p fl i:=gQ 8 λj _=>by
 unfold td;split
 ·rfl
 ·rename_i e;show Qa _ _=Qa _ _;rw[hp j e,hf j e]
theorem _root_.Go.X.au.QG(h:au w0 S0 R0 w F)(p:Nat→Option Pt)(fl:Nat→Option Sk){i:Nat}(hi:i<8)(q:Nat→Option Pt)(gl:Nat→Option Sk)(a:Nat)(f:Sk)(hp:∀j,j≠i→q j=p j)(hf:∀j,j≠i→gl j=fl j)(hq:q i=some ⟨a,0⟩)(hg:gl i=some f)[tk:Take (kg a f^uv p fl i) F G]:au w0 S0 R0 w (ns q gl^G):=by
 have h:=(h.le tk.le).le (cy _ _ _);have h:au w0 S0 R0 w (Qa (q i) (gl i)^uv p fl i^G):=by
  rw[hg];exact au.s_ (f:=λa:Nat=>bh (q i=some ⟨a,0⟩) (kg a f)) a (au.iF hq h)
 rw[←Hj p q fl gl i hp hf]at h;exact(h.le (cM _ _ _)).le (aZ (ra (WQ q gl) hi) Le.rfl)
theorem _root_.Go.X.au.X2(h:au w0 S0 R0 w F)(p:Nat→Option Pt)(fl:Nat→Option Sk){i:Nat}(hi:i<8)(q:Nat→Option Pt)(gl:Nat→Option Sk)(hp:∀j,j≠i→q j=p j)(hf:∀j,j≠i→gl j=fl j)(hq:q i=none)(hg:gl i=none)[tk:Take (uv p fl i) F G]:au w0 S0 R0 w (ns q gl^G):=by
 have h:=(h.le tk.le);have h:au w0 S0 R0 w (Qa (q i) (gl i)^uv p fl i^G):=by
  rw[hg];exact au.iF (p:=q i=none) (A:=aT) hq (h.le ((aF _).trans (aV _ _)))
 rw[←Hj p q fl gl i hp hf]at h;exact(h.le (cM _ _ _)).le (aZ (ra (WQ q gl) hi) Le.rfl)
theorem X5(h:au w0 S0 R0 w F)(p:Nat→Option Pt)(fl:Nat→Option Sk){i:Nat}(hi:i<8)[tk:Take (ns p fl) F G]:(p i).isNone=(fl i).isNone:=by
 cases hf:fl i with
 |none=>rw[(h.UO p fl hi hf).1];rfl
 |some f=>obtain⟨a,ha,_⟩:=h.FY p fl hi hf;rw[ha];rfl
end
structure iH(k:Int)(v:Mc):Prop where
 c:Af v.c
 ao:0≤v.ao∧v.ao≤4611686018427387904
 q:iQ v.q
 so:∀i x,v.so i=some x→lL.oH k x∧x.id=(i:Int)∧i<8
 kr:0≤k∧k≤1000000
theorem iH.un{k:Int}{v:Mc}(h:iH k v):U v.ao:=by have:=h.ao;unfold U;omega
theorem L1(b:Nat)(v:Mc):bm (OG (some ⟨b,0⟩)) (dy b v) (λr=>bh (r=v.ao) (dy b v)):=
 br λw0 S R h=>by
  refine ae (λc=>(by simp at c)) λ_=>?_;obtain⟨p,ck,q,l,h⟩:=(h.le (aF _)).dy b;refine ac (aj (x:=some ⟨ck,0⟩) h rfl (af (HQ ck v.ao) h λr w h=>?_));obtain⟨hr,h⟩:=h.aB;rw[hr];exact au.aE rfl (h.gg b p ck q l v).aG
theorem pk(b:Nat)(c:Cf)(p:Nat→Option Pt)(ck q l:Nat)(ao:Int):bm (OG (some ⟨b,0⟩)) (ah b (mL c ck p q l)^ah ck [.int .u64 ao]) (λr=>bh (r=ao) (ah b (mL c ck p q l)^ah ck [.int .u64 ao])):=
 br λw0 S R h=>by
  refine ae (λc=>(by simp at c)) λ_=>?_;refine ac (aj (x:=some ⟨ck,0⟩) h rfl (af (HQ ck ao) h λr w h=>?_));obtain⟨hr,h⟩:=h.aB;rw[hr];exact au.aE rfl h.aG
theorem zz(b:Nat)(v:Mc):bm (Ws (some ⟨b,0⟩)) (dy b v) (λr=>bh (r=v.q.n) (dy b v)):=
 br λw0 S R h=>by
  refine ae (λc=>(by simp at c)) λ_=>?_;obtain⟨p,ck,q,l,h⟩:=(h.le (aF _)).dy b;refine ac (aj (x:=some ⟨q,0⟩) h rfl (af (wP.Pw q v.q) h λr w h=>?_));obtain⟨hr,h⟩:=h.aB;rw[hr];exact au.aE rfl (h.gg b p ck q l v).aG
theorem FT(b:Nat)(v:Mc)(s:Int):bm (Xe (some ⟨b,0⟩) s) (dy b v) (λr=>bh (r=jb v.l s) (dy b v)):=
 br λw0 S R h=>by
  refine aA (h.le (aF _)) λn1 w h=>ae (λc=>(by simp at c)) λ_=>?_;obtain⟨p,ck,q,l,h⟩:=h.dy b;refine ac (aj (x:=some ⟨l,0⟩) h rfl (af (Bw.sf l v.l s) h λr w h=>?_));obtain⟨hr,h⟩:=h.aB;rw[hr];refine aA h λn6 w h=>aw h (by rfl) λw h=>ar (b:=n6) (x:=jb v.l s) h rfl (aw h (by rfl) λw h=>ar (b:=n1) (x:=jb v.l s) h rfl ?_);exact au.aE rfl (h.gg b p ck q l v).aG
theorem Jg(b:Nat)(v:Mc)(hv:iQ v.q)(s:Int):bm (Xk (some ⟨b,0⟩) s) (dy b v) (λr=>ex λa:Sl=>bh (r=wP.nV v.q s a) (aP a KS (wP.EX v.q s)^dy b v)):=
 br λw0 S R h=>by
  refine aA (h.le (aF _)) λn1 w h=>ae (λc=>(by simp at c)) λ_=>?_;obtain⟨p,ck,q,l,h⟩:=h.dy b;refine ac (aj (x:=some ⟨q,0⟩) h rfl (af (wP.Lq q v.q hv s) h λr w h=>?_));obtain⟨a,h⟩:=h.lX;obtain⟨hr,h⟩:=h.aB;rw[hr];refine aw h (by rfl) λw h=>ar (b:=n1) (x:=(wP.nV v.q s a).1) h rfl ?_;have h:=h.gg b p ck q l v;exact au.gX a (au.aE rfl h.aG)
theorem LB(i:Int):bm (Wz i) aT (λr=>bh (r=decide (0≤i∧i<8)) aT):=
 br λw0 S R h=>by
  refine au.aE ?_ h;rw[jk];simp
def eY(v:Mc)(i:Int):Option Sk:=if 0≤i∧i<8 then v.so i.toNat else none
theorem Ea(b:Nat)(c:Cf)(p:Nat→Option Pt)(ck q l:Nat)(i:Int):bm (Wu (some ⟨b,0⟩) i) (ah b (mL c ck p q l)) (λr=>bh (r=if 0≤i∧i<8 then p i.toNat else none) (ah b (mL c ck p q l))):=
 br λw0 S R h=>by
  have h:=h.le (aF _);refine aK h (λ_=>ah b (mL c ck p q l)^aT) (λ_=>0≤i∧i<8) (λ_ w hi h=>?_) ?_
  ·refine ac ⟨hi,aj h (LW c ck p q l i.toNat (by omega)) ?_⟩;exact au.aE (by rw[aC hi]) h.aG
  ·refine ae (λc=>(by simp at c)) λ_=>af (LB i) (h.le ((aF _).trans (aV _ _))) λr w h=>?_;obtain⟨hr,h⟩:=h.aB;rw[hr];refine ae (λc=>?_) λc=>?_
   ·have c:¬(0≤i∧i<8):=λhh=>by rw[kV hh]at c;cases c
    exact au.aE (by rw[ay c]) h.aG
   ·have c:0≤i∧i<8:=bV;exact⟨c,h.aG⟩
abbrev Uf:Int×Int×Int×Int:=(0,0,0,0)
def QZ(x:Option Sk):Int×Int×Int×Int:=match x with
 |none=>Uf
 |some v=>(v.out,cK v,dY.bW v.bf-dY.bN v.bf,bp v)
theorem sO(b:Nat)(k:Int)(v:Mc)(hv:iH k v)(i:Int):bm (Xh (some ⟨b,0⟩) i) (dy b v) (λr=>bh (r=(QZ (eY v i),(eY v i).isSome)) (dy b v)):=
 br λw0 S R h=>by
  refine aA (h.le (aF _)) λn1 w h=>?_;obtain⟨p,ck,q,l,h⟩:=h.dy b;refine af (Ea b v.c p ck q l i) h λr w h=>?_;obtain⟨hr,h⟩:=h.aB;rw[hr];have no:∀{w:World} (x:Option Pt),x=none→eY v i=none→au w0 S R w ((ah b (mL v.c ck p q l)^ah ck [.int .u64 v.ao]^nX q v.q^rz l v.l^ns p v.so)^ah n1 [.int .u64 0,.int .u64 0,.int .u64 0,.int .i64 0]^aT)→
    (call Tryz.prog xm [.lf (.ptr x)] [.lf (.int .u64)] λ(r3:Int)=>call Tryz.prog tG [.lf (.ptr x)] [.lf (.int .u64)] λ(r4:Int)=>call Tryz.prog tH [.lf (.ptr x)] [.lf (.int .u64)] λ(r5:Int)=>call Tryz.prog qo [.lf (.ptr x)] [.lf (.int .i64)] λ(r6:Int)=>
     st ⟨n1,0⟩ [.int .u64 r3,.int .u64 r4,.int .u64 r5,.int .i64 r6]<|ld [.int .u64,.int .u64,.int .u64,.int .i64] ⟨n1,0⟩ λ(x7:Int×Int×Int×Int)=>λw=>au w0 S R w (bh ((x7,(!x.isNone))=(QZ (eY v i),(eY v i).isSome)) (dy b v))) w:=by
   intro w x hx ho h;rw[hx,ho];refine af ta.FZ (h.le ((aF _).trans (aV _ _))) λr w h=>?_;obtain⟨hr,h⟩:=h.aB;rw[hr];refine af ta.An h λr w h=>?_;obtain⟨hr,h⟩:=h.aB;rw[hr];refine af ta.Ay h λr w h=>?_;obtain⟨hr,h⟩:=h.aB;rw[hr];refine af ta.G2 h λr w h=>?_;obtain⟨hr,h⟩:=h.aB;rw[hr];refine aw h (by rfl) λw h=>ar (b:=n1) (x:=Uf) h rfl ?_;exact au.aE rfl (h.gg b p ck q l v).aG
  by_cases hi:0≤i∧i<8
  ·have hi8:i.toNat<8:=(by omega);cases hs:v.so i.toNat with
   |none=>
    have ho:eY v i=none:=(by unfold eY;rw[aC hi,hs]);obtain⟨hp,_⟩:=h.UO p v.so hi8 hs;exact no _ (by rw[aC hi,hp]) ho h.aG
   |some x=>
    have ho:eY v i=some x:=(by unfold eY;rw[aC hi,hs]);obtain⟨a,hp,h⟩:=h.FY p v.so hi8 hs;have hx:=(hv.so _ _ hs).1;rw[aC hi,hp,ho];refine af (PN a x) h λr w h=>?_;obtain⟨hr,h⟩:=h.aB;rw[hr];refine af (eS.pR a x hx.i.bl) h λr w h=>?_;obtain⟨hr,h⟩:=h.aB;rw[hr];refine af (G3 a x hx.i.ok.bf) h λr w h=>?_;obtain⟨hr,h⟩:=h.aB;rw[hr];refine af (Df.xQ a x hx.i.ok.md) h λr w h=>?_;obtain⟨hr,h⟩:=h.aB;rw[hr];refine aw h (by rfl) λw h=>ar (b:=n1) (x:=QZ (some x)) h rfl ?_;have h:=h.QG p v.so hi8 p v.so a x (λ_ _=>rfl) (λ_ _=>rfl) hp hs;exact au.aE rfl (h.gg b p ck q l v).aG
  ·have ho:eY v i=none:=(by unfold eY;rw[ay hi]);exact no _ (by rw[ay hi]) ho h.aG
abbrev Jf:eH.St:=(0,0,0,0,0,0,0,0,false,false)
def WN(x:Option Sk):eH.St:=match x with
 |none=>Jf
 |some v=>eH.Ac v.md
theorem sD(b:Nat)(v:Mc)(i:Int):bm (Xj (some ⟨b,0⟩) i) (dy b v) (λr=>bh (r=(WN (eY v i),(eY v i).isSome)) (dy b v)):=
 br λw0 S R h=>by
  refine aA (h.le (aF _)) λn1 w h=>?_;obtain⟨p,ck,q,l,h⟩:=h.dy b;refine af (Ea b v.c p ck q l i) h λr w h=>?_;obtain⟨hr,h⟩:=h.aB;rw[hr];by_cases hi:0≤i∧i<8
  ·have hi8:i.toNat<8:=(by omega);cases hs:v.so i.toNat with
   |none=>
    have ho:eY v i=none:=(by unfold eY;rw[aC hi,hs]);obtain⟨hp,_⟩:=h.UO p v.so hi8 hs;rw[aC hi,hp,ho];refine af ta.uW (h.le ((aF _).trans (aV _ _))) λr w h=>?_;obtain⟨hr,h⟩:=h.aB;rw[hr];refine aw h (by rfl) λw h=>ar (b:=n1) (x:=Jf) h rfl ?_;exact au.aE rfl (h.gg b p ck q l v).aG
   |some x=>
    have ho:eY v i=some x:=(by unfold eY;rw[aC hi,hs]);obtain⟨a,hp,h⟩:=h.FY p v.so hi8 hs;rw[aC hi,hp,ho];refine af (eS.sD a x) h λr w h=>?_;obtain⟨hr,h⟩:=h.aB;rw[hr];refine aw h (by rfl) λw h=>ar (b:=n1) (x:=eH.Ac x.md) h rfl ?_;have h:=h.QG p v.so hi8 p v.so a x (λ_ _=>rfl) (λ_ _=>rfl) hp hs;exact au.aE rfl (h.gg b p ck q l v).aG
  ·have ho:eY v i=none:=(by unfold eY;rw[ay hi]);rw[ay hi,ho];refine af ta.uW (h.le ((aF _).trans (aV _ _))) λr w h=>?_;obtain⟨hr,h⟩:=h.aB;rw[hr];refine aw h (by rfl) λw h=>ar (b:=n1) (x:=Jf) h rfl ?_;exact au.aE rfl (h.gg b p ck q l v).aG
end Ae

namespace qk
open bB bi fg lK lV eS z9 Bw Ae
open dZ (Sk bY b_ eh ie ii cK bp)
theorem zE(so:Nat→Option Sk){i:Nat}(h:i<8):(bK so)[i]?=some (pz (so i)):=by
 rcases QM h with rfl|rfl|rfl|rfl|rfl|rfl|rfl|rfl<;>rfl
theorem CE{k:Int}{v:Mc}(hv:iH k v):∀x∈bK v.so,U x:=by
 have one:∀i,U (pz (v.so i)):=λi=>by
  unfold pz;split
  ·exact⟨by decide,by decide⟩
  ·rename_i x hx;exact(hv.so i x hx).1.i.ok.md.aQ
 intro x hx;obtain⟨i,hi⟩:=vd.1 hx;have hi8:i<8:=by have:=(gJ.1 hi).1;exact this
 rw[zE v.so hi8]at hi;cases hi;exact one i
abbrev KP8:Ks:=[.ptr,.ptr,.ptr,.ptr,.ptr,.ptr,.ptr,.ptr]
abbrev p8(p:Nat→Option Pt):Ks.T KP8:=(p 0,p 1,p 2,p 3,p 4,p 5,p 6,p 7)
theorem VQ(p:Nat→Option Pt){i:Nat}(h:i<8):Ks.mk [.ptr] (p i)=((Ks.mk KP8 (p8 p)).drop (i*1)).take 1:=by
 rcases QM h with rfl|rfl|rfl|rfl|rfl|rfl|rfl|rfl<;>rfl
theorem wD(b:Nat)(k:Int)(v:Mc)(hv:iH k v)(p:Nat→Option Pt)(ck q l:Nat):bm (Vt (some ⟨b,0⟩)) (ah b (mL v.c ck p q l)^ns p v.so) (λr=>aP r KU (bK v.so)^ah b (mL v.c ck p q l)^ns p v.so):=
 br λw0 S R h=>by
  refine ac (aj (x:=p8 p) h rfl ?_);have h:=h.nil KU;have h:au w0 S R w0 (aP ⟨none,0,0⟩ KU ((bK v.so).take 0)^ah b (mL v.c ck p q l)^ns p v.so):=h;refine gn (λ(y:Sl×Int) (_:Unit)=>aP y.1 KU ((bK v.so).take y.2.toNat)^ah b (mL v.c ck p q l)^ns p v.so) (λ(y:Sl×Int) _=>0≤y.2∧y.2≤8) (λ(y:Sl×Int) _=>(8-y.2).toNat) () h ⟨by decide,by decide⟩ ?_;rintro K (y:Sl×Int) _ w ⟨h0,h1⟩ h k;obtain⟨s,i⟩:=y;dsimp only at h0 h1 h⊢;refine ae (λc=>?_) λc=>?_
  ·have c:i<8:=bJ c;have hi8:i.toNat<8:=(by omega);have hwi:IntKind.i64.wrap (i+1)=i+1:=wi (by omega) (by omega);have hin:(i+1).toNat=i.toNat+1:=(by omega);refine⟨⟨h0,c⟩,p i.toNat,VQ p hi8,?_⟩;rw[hwi];have hlen:((bK v.so).take i.toNat).length=i.toNat:=(by rw[fM];show min i.toNat 8=_;omega);refine aK h (λ_=>aP s KU ((bK v.so).take i.toNat)^ah b (mL v.c ck p q l)^ns p v.so) (λr:Int=>r=pz (v.so i.toNat)) (λ(r:Int) w hr h=>?_) ?_
   ·refine aA h λn9 w h=>?_;have h:=h.cT n9 KU [r] rfl (by simp);have h:au w0 S R w (aP ⟨some ⟨n9,0⟩,1,1⟩ KU [r]^_):=h;refine dE (K:=KU) (s:=s) (xs:=(bK v.so).take i.toNat) h rfl (by rw[hlen];simp only[qy];omega) λs' w _ h=>?_;have e:(bK v.so).take i.toNat++[r]=(bK v.so).take (i+1).toNat:=by
     rw[hin,lF,zE v.so hi8,hr];rfl
    rw[e]at h;exact k (s',i+1) () w ⟨by show 0≤i+1;omega,by show i+1≤8;omega⟩ h.aG (by show(8-(i+1)).toNat<(8-i).toNat;omega)
   ·cases hs:v.so i.toNat with
    |none=>
     obtain⟨hp,_⟩:=h.UO p v.so hi8 hs;rw[hp];refine ae (λc=>(by simp at c)) λ_=>?_;exact⟨rfl,h⟩
    |some x=>
     obtain⟨a,hp,h⟩:=h.FY p v.so hi8 hs;rw[hp];refine ae (λ_=>?_) λc=>(by simp at c);refine af (eS.sD a x) h λr w h=>?_;obtain⟨hr,h⟩:=h.aB;rw[hr];have h:=h.QG p v.so hi8 p v.so a x (λ_ _=>rfl) (λ_ _=>rfl) hp hs;exact⟨rfl,h.aG⟩
  ·have c:¬i<8:=bQ c;have e:(bK v.so).take i.toNat=bK v.so:=kp (by show 8≤i.toNat;omega);rw[e]at h;exact h
abbrev KI:Ks:=[.int .i64]
def fu(a:Nat)(o:Ou):SP:=ex λs:Sl×Sl×Sl=>ah a [.sl s.1,.sl s.2.1,.sl s.2.2,.int .u64 o.wd]^aP s.1 KS o.oa^aP s.2.1 KS o.dr^aP s.2.2 KI o.ft
instance(a:Nat)(o:Ou):qq (fu a o):=by unfold fu;infer_instance
section
variable {w0 w:World} {S0 R0:Nat→Prop} {F G:SP}
theorem _root_.Go.X.au.fu(h:au w0 S0 R0 w F)(b:Nat){v:Ou}[tk:mR qk.fu b F v G]:∃(s1 s2 s3:Sl),au w0 S0 R0 w (ah b [.sl s1,.sl s2,.sl s3,.int .u64 v.wd]^aP s1 KS v.oa^aP s2 KS v.dr^aP s3 KI v.ft^G):=by
 obtain⟨s,h⟩:=(h.le tk.le).lX;exact⟨s.1,s.2.1,s.2.2,h.aG⟩
theorem _root_.Go.X.au.v9(h:au w0 S0 R0 w F)(b:Nat)(s1 s2 s3:Sl)(v:Ou)[tk:Take (ah b [.sl s1,.sl s2,.sl s3,.int .u64 v.wd]^aP s1 KS v.oa^aP s2 KS v.dr^aP s3 KI v.ft) F G]:au w0 S0 R0 w (qk.fu b v^G):=
 au.s_ (f:=λs:Sl×Sl×Sl=>ah b [.sl s.1,.sl s.2.1,.sl s.2.2,.int .u64 v.wd]^aP s.1 KS v.oa^aP s.2.1 KS v.dr^aP s.2.2 KI v.ft) (s1,s2,s3) (h.le tk.le)
end
def Mp(m o:Nat)(n6:Nat)(is:Bool)(R:WP):WP:=
 aq is (
 bF<|
 deref (some ⟨m,0⟩) λq7=>
 ld [.int .i64] ⟨n6,0⟩ λ(x8:Int)=>
 ld [.ptr] ⟨q7.b,q7.o+19⟩ λ(x9:Option Pt)=>
 call Tryz.prog qV [.lf (.ptr x9),.lf (.int .i64 x8),.lf (.int .i64 (1:Int))] [.lf (.int .i64)] λ(r10:Int)=>
 ld KS ⟨n6,0⟩ λ(x11:Sg)=>
 new [.int .i64 x11.1,.int .u64 x11.2.1,.int .i64 x11.2.2.1,.int .u64 x11.2.2.2.1,.bool x11.2.2.2.2] λn12=>
 deref (some ⟨o,0⟩) λq13=>
 st q13 [.sl ⟨some ⟨n12,0⟩,1,1⟩]<|
 R)<|
 deref (some ⟨m,0⟩) λq14=>
 ld [.ptr] ⟨q14.b,q14.o+18⟩ λ(x15:Option Pt)=>
 call Tryz.prog sU [.lf (.ptr x15)] [.lf (.int .u64),.lf .bool] λ(r16:Int×Bool)=>
 aq r16.2 (
 deref (some ⟨o,0⟩) λq17=>
 st ⟨q17.b,q17.o+3⟩ [.int .u64 (if(1:Int)>r16.1 then(1:Int)else r16.1)]<|
 R)<|
 R
theorem Qg{w0 w:World}{S0 R0:Nat→Prop}{G:SP}{R:WP}{b a n6 ck q l:Nat}{p:Nat→Option Pt}{v:Mc}{o:Ou}
  (h:au w0 S0 R0 w (ah n6 (Ks.mk KS (wR.At (jw v.q v.ao (bK v.so)).1).1)^(ah b (mL ({v with q:=(jw v.q v.ao (bK v.so)).2}).c ck p q l)^ah ck [.int .u64 ({v with q:=(jw v.q v.ao (bK v.so)).2}).ao]^nX q ({v with q:=(jw v.q v.ao (bK v.so)).2}).q^rz l ({v with q:=(jw v.q v.ao (bK v.so)).2}).l^ns p ({v with q:=(jw v.q v.ao (bK v.so)).2}).so)^fu a o^G))
  (k:∀w',au w0 S0 R0 w' (dy b (fy v o).2^fu a (fy v o).1^G)→R w'):Mp b a n6 (wR.At (jw v.q v.ao (bK v.so)).1).2 R w:=by
 unfold Mp;cases hd:jw v.q v.ao (bK v.so)with
 |mk x q'=>
 rw[hd]at h;dsimp only at h⊢;cases x with
 |some s=>
  have e:fy v o=({o with oa:=[s]},{v with q:=q',l:=(fT v.l (sK s) 1).2}):=by unfold fy;rw[hd]
  rw[e]at k;refine ae (λ_=>?_) λc=>(by cases c);refine aH h λw h=>ac (aj (x:=sK s) h rfl (aj (x:=some ⟨l,0⟩) h rfl (af (yP l v.l (sK s) 1) h λr w h=>?_)));obtain⟨_,h⟩:=h.aB;refine ar (b:=n6) (x:=s) h rfl (aA h λn12 w h=>?_);have h:=h.cT n12 KS [s] rfl (by simp);have h:au w0 S0 R0 w (aP ⟨some ⟨n12,0⟩,1,1⟩ KS [s]^_):=h;obtain⟨s1,s2,s3,h⟩:=h.fu a;refine ac (az h a [.sl ⟨some ⟨n12,0⟩,1,1⟩,.sl s2,.sl s3,.int .u64 o.wd] rfl rfl rfl λw h=>?_);have h:=h.v9 a ⟨some ⟨n12,0⟩,1,1⟩ s2 s3 {o with oa:=[s]};have h:=h.gg b p ck q l {v with q:=q',l:=(fT v.l (sK s) 1).2};exact k w h.aG
 |none=>
  refine ae (λc=>(by cases c)) λ_=>?_;refine ac (aj (x:=some ⟨q,0⟩) h rfl (af (wP.B7 q q') h λr w h=>?_));obtain⟨hr,h⟩:=h.aB;rw[hr];dsimp only;refine ae (λc=>?_) λc=>?_
  ·have e:fy v o=({o with wd:=if 1>(ni q'.ks).1.1 then 1 else(ni q'.ks).1.1},{v with q:=q'}):=(by unfold fy;rw[hd];dsimp only;rw[if_pos c]);rw[e]at k;obtain⟨s1,s2,s3,h⟩:=h.fu a;refine ac (az h a [.sl s1,.sl s2,.sl s3,.int .u64 (if(1:Int)>(ni q'.ks).1.1 then(1:Int)else(ni q'.ks).1.1)] rfl rfl rfl λw h=>?_);have h:=h.v9 a s1 s2 s3 {o with wd:=if 1>(ni q'.ks).1.1 then 1 else(ni q'.ks).1.1};have h:=h.gg b p ck q l {v with q:=q'};exact k w h.aG
  ·have e:fy v o=(o,{v with q:=q'}):=(by unfold fy;rw[hd];dsimp only;rw[if_neg (by rw[c];simp)]);rw[e]at k;have h:=h.gg b p ck q l {v with q:=q'};exact k w h.aG
theorem mN{A B:WP}{w:World}(h:A w)(k:B w):both A B w:=⟨h,k⟩
theorem Mq(b a:Nat)(k:Int)(v:Mc)(hv:iH k v)(o:Ou):bm (Xt (some ⟨b,0⟩) (some ⟨a,0⟩)) (dy b v^fu a o) (λ_=>dy b (fy v o).2^fu a (fy v o).1):=
 br λw0 S R h=>by
  obtain⟨p,ck,q,l,h⟩:=(h.le (aF _)).dy b;have hU:=CE hv;have zS:List Lf:=[.int .i64 0,.int .u64 0,.int .i64 0,.int .u64 0,.bool false];have aG:∀{w:World} {n6:Nat},au w0 S R w (ah n6 (Ks.mk KS (wR.At (jw v.q v.ao (bK v.so)).1).1)^(ah b (mL ({v with q:=(jw v.q v.ao (bK v.so)).2}).c ck p q l)^ah ck [.int .u64 ({v with q:=(jw v.q v.ao (bK v.so)).2}).ao]^nX q ({v with q:=(jw v.q v.ao (bK v.so)).2}).q^rz l ({v with q:=(jw v.q v.ao (bK v.so)).2}).l^ns p ({v with q:=(jw v.q v.ao (bK v.so)).2}).so)^fu a o^aT)→Mp b a n6 (wR.At (jw v.q v.ao (bK v.so)).1).2 (λw=>au w0 S R w (dy b (fy v o).2^fu a (fy v o).1)) w:=λ{w n6} h=>Qg h λw' h=>h.aG;refine aH h λw h=>ac (aj (x:=some ⟨q,0⟩) h rfl (mN ?_ ?_))
  ·refine af (pk b v.c p ck q l v.ao) h λr w h=>?_;obtain⟨hr,h⟩:=h.aB;rw[hr];refine aI h rfl (mN ?_ ?_)
   ·refine af (wD b k v hv p ck q l) h λr w h=>?_;refine aI h rfl (mN ?_ ?_)
    ·refine bI (A:=nX q v.q) (Q:=ba r KU (bK v.so)) (wR.xy q v.q hv.q v.ao hv.un r (bK v.so) hU) h λr w h=>?_;obtain⟨hr,h⟩:=h.aB;rw[hr];refine aA h λn6 w h=>aI h rfl (aw h (by rfl) λw h=>?_);exact aG h.aG
    ·refine aA h λn6 w h=>aI h rfl ?_;refine bI (A:=nX q v.q) (Q:=ba r KU (bK v.so)) (wR.xy q v.q hv.q v.ao hv.un r (bK v.so) hU) h λr w h=>?_;obtain⟨hr,h⟩:=h.aB;rw[hr];refine aw h (by rfl) λw h=>?_;exact aG h.aG
   ·refine aA h λn6 w h=>aI h rfl ?_;refine af (wD b k v hv p ck q l) h λr w h=>?_;refine aI h rfl ?_;refine bI (A:=nX q v.q) (Q:=ba r KU (bK v.so)) (wR.xy q v.q hv.q v.ao hv.un r (bK v.so) hU) h λr w h=>?_;obtain⟨hr,h⟩:=h.aB;rw[hr];refine aw h (by rfl) λw h=>?_;exact aG h.aG
  ·refine aA h λn6 w h=>aI h rfl ?_;refine af (pk b v.c p ck q l v.ao) h λr w h=>?_;obtain⟨hr,h⟩:=h.aB;rw[hr];refine aI h rfl ?_;refine af (wD b k v hv p ck q l) h λr w h=>?_;refine aI h rfl ?_;refine bI (A:=nX q v.q) (Q:=ba r KU (bK v.so)) (wR.xy q v.q hv.q v.ao hv.un r (bK v.so) hU) h λr w h=>?_;obtain⟨hr,h⟩:=h.aB;rw[hr];refine aw h (by rfl) λw h=>?_;exact aG h.aG
end qk

namespace E2
open bB bi fg lK lV eS z9 Bw Ae qk
open dZ (Sk bY b_ eh ie ii cK bp dI)
open wT (Ip gN gF gS gA AL)
open nG (mc pq yH)
open lL (oH)
theorem nI(b a:Nat)(c:Cf)(p:Nat→Option Pt)(ck q l:Nat)(L:Nat→Ct)(o:Ou)(s:Sg)(f:Int)(hl:o.dr.length≤1000∧o.ft.length≤1000):bm (Oi (some ⟨b,0⟩) (some ⟨a,0⟩) s f)
  (ah b (mL c ck p q l)^rz l L^fu a o) (λ_=>ah b (mL c ck p q l)^rz l (cd L o s f).2^fu a (cd L o s f).1):=
 br λw0 S R h=>by
  refine aA (h.le (aF _)) λn1 w h=>aH h λw h=>ac (aj (x:=sK s) h rfl (aj (x:=some ⟨l,0⟩) h rfl (af (yP l L (sK s) f) h λr w h=>?_)));obtain⟨_,h⟩:=h.aB;obtain⟨s1,s2,s3,h⟩:=h.fu a;have hl2:o.dr.length+[s].length≤4294967296:=by have:=hl.1;simp only[qy];omega
  have hl3:o.ft.length+[f].length≤4294967296:=by have:=hl.2;simp only[qy];omega
  have aG:∀{w:World} {t2 t3:Sl},au w0 S R w (aP t3 KI (o.ft++[f])^aP t2 KS (o.dr++[s])^ah a [.sl s1,.sl s2,.sl s3,.int .u64 o.wd]^aP s1 KS o.oa^ah b (mL c ck p q l)^rz l (fT L (sK s) f).2^aT)→
    (deref (some ⟨a,0⟩) λq15=>st ⟨q15.b,q15.o+1⟩ [.sl t2]<|deref (some ⟨a,0⟩) λq16=>st ⟨q16.b,q16.o+2⟩ [.sl t3]<|λw=>au w0 S R w (ah b (mL c ck p q l)^rz l (cd L o s f).2^fu a (cd L o s f).1)) w:=by
   intro w t2 t3 h;refine ac (az h a [.sl s1,.sl t2,.sl s3,.int .u64 o.wd] rfl rfl rfl λw h=>?_);refine ac (az h a [.sl s1,.sl t2,.sl t3,.int .u64 o.wd] rfl rfl rfl λw h=>?_);have h:=h.v9 a s1 t2 t3 {o with dr:=o.dr++[s],ft:=o.ft++[f]};exact h.aG (A:=ah b (mL c ck p q l)^rz l (fT L (sK s) f).2^fu a {o with dr:=o.dr++[s],ft:=o.ft++[f]})
  refine aH h λw h=>ar (b:=n1) (x:=s) h rfl (ac (ac (aj (x:=s2) h rfl (aj (x:=s3) h rfl (mN ?_ ?_)))))
  ·refine aA h λn11 w h=>aI h rfl (aI h rfl (mN ?_ ?_))
   ·have h:=h.cT n11 KS [s] rfl (by simp);have h:au w0 S R w (aP ⟨some ⟨n11,0⟩,1,1⟩ KS [s]^_):=h;refine dE (K:=KS) (s:=s2) (xs:=o.dr) h rfl hl2 λt2 w _ h=>?_;refine aI h rfl (aA h λn13 w h=>aI h rfl (aI h rfl (aJ (b:=n1) h ?_)));have h:=h.cT n13 KI [f] rfl (by simp);have h:au w0 S R w (aP ⟨some ⟨n13,0⟩,1,1⟩ KI [f]^_):=h;refine dE (K:=KI) (s:=s3) (xs:=o.ft) h rfl hl3 λt3 w _ h=>?_;exact aG h.aG
   ·refine aA h λn17 w h=>aI h rfl (aI h rfl (aJ (b:=n1) h ?_));have h:=h.cT n11 KS [s] rfl (by simp);have h:au w0 S R w (aP ⟨some ⟨n11,0⟩,1,1⟩ KS [s]^_):=h;refine dE (K:=KS) (s:=s2) (xs:=o.dr) h rfl hl2 λt2 w _ h=>?_;refine aI h rfl ?_;have h:=h.cT n17 KI [f] rfl (by simp);have h:au w0 S R w (aP ⟨some ⟨n17,0⟩,1,1⟩ KI [f]^_):=h;refine dE (K:=KI) (s:=s3) (xs:=o.ft) h rfl hl3 λt3 w _ h=>?_;exact aG h.aG
  ·refine aA h λn22 w h=>aI h rfl (aI h rfl (aJ (b:=n1) h (aA h λn23 w h=>aI h rfl (aI h rfl ?_))));have h:=h.cT n23 KS [s] rfl (by simp);have h:au w0 S R w (aP ⟨some ⟨n23,0⟩,1,1⟩ KS [s]^_):=h;refine dE (K:=KS) (s:=s2) (xs:=o.dr) h rfl hl2 λt2 w _ h=>?_;refine aI h rfl ?_;have h:=h.cT n22 KI [f] rfl (by simp);have h:au w0 S R w (aP ⟨some ⟨n22,0⟩,1,1⟩ KI [f]^_):=h;refine dE (K:=KI) (s:=s3) (xs:=o.ft) h rfl hl3 λt3 w _ h=>?_;exact aG h.aG
theorem Uz{k:Int}{v v':Sk}{ao:Int}{g:Sg}(hv:mc k v)(hv':mc k v')(hw:Ip v ao g v'):0≤gF g∧gF g+gN g≤4611686018427387904:=by
 have b1:=hv'.ok.bf.nw;have b2:=hv'.ok.bf.w;have b3:=hv.ok.bf.u;have b4:=hv.ok.bf.un;cases hx:gA g with
 |false=>
  obtain⟨n1,n2,_⟩:=hw.new hx;have:dY.bN v'.bf=dY.bN v.bf+gN g:=by rw[n2]
  rw[n1];omega
 |true=>
  obtain⟨_,n2,_⟩:=hw.Mf hx;obtain⟨z,hz,ez⟩:=yH (l:=v.bd.1) (by rw[n2]);have hzo:=hv.pc z hz;rw[n2]at ez;have e1:gF g=eA.iA z:=jF Prod.fst ez;have e2:gF g+gN g=eA.w8 z:=jF Prod.snd ez;have:=hzo.f;have:=hzo.t;omega
theorem Hl{α:Type}{f:α→Bool}:∀{l:List α} {i:Nat} {p q:α},l[i]?=some p→f p=true→f q=false→(l.set i q).countP f+1=l.countP f
 |[],_,_,_,h,_,_=>by cases h
 |a::l,0,p,q,h,hp,hq=>by
  cases h;rw[List.set_cons_zero,MJ (by rw[hq];simp),List.countP_cons_of_pos hp]
 |a::l,i+1,p,q,h,hp,hq=>by
  have:=Hl (l:=l) (i:=i) (p:=p) (q:=q) WR hp hq;rw[List.set_cons_succ,List.countP_cons,List.countP_cons];omega
theorem FH{k:Int}{v v':Sk}{ao:Int}{g:Sg}(hv:mc k v)(hv':mc k v')(hw:Ip v ao g v'):fresh v'<fresh v:=by
 have b1:=hv'.ok.bf.nw;have hn:=hw.n;have e0:fresh v'=(dY.bW v'.bf-dY.bN v'.bf).toNat+v'.bd.1.countP (λp=>eA.jr p):=rfl;have e1:fresh v=(dY.bW v.bf-dY.bN v.bf).toNat+v.bd.1.countP (λp=>eA.jr p):=rfl;rw[e0,e1];cases hx:gA g with
 |false=>
  obtain⟨_,n2,_,_,n5⟩:=hw.new hx;have f1:dY.bN v'.bf=dY.bN v.bf+gN g:=by rw[n2]
  have f2:dY.bW v'.bf=dY.bW v.bf:=by rw[n2]
  have f3:v'.bd.1.countP (λp=>eA.jr p)=v.bd.1.countP (λp=>eA.jr p):=by
   rw[n5];show(v.bd.1++[_]).countP _=_;rw[List.countP_append,MJ (by show ¬(false=true);simp)];rfl
  rw[f3];omega
 |true=>
  obtain⟨n1,n2,n3⟩:=hw.Mf hx;obtain⟨i,pp,hp,hlo,_,e2⟩:=wT.HL (l:=v.bd.1) (by rw[n2]);have f3:v'.bd.1.countP (λp=>eA.jr p)+1=v.bd.1.countP (λp=>eA.jr p):=by
   rw[n3];show(eA.dw v.bd.1 _).countP _+1=_;rw[e2];exact Hl hp hlo rfl
  rw[n1];omega
theorem FG(v:Sk)(n:Int):fresh (b_ v n).2=fresh v:=by unfold b_;split<;>rfl
theorem rv{k:Int}{v:Sk}(h:oH k v){ao:Int}(hn:U ao):oH k (bY v ao).2:=
 {i:=h.i.emit hn,kr:=h.kr,g:=(lL.Ld v ao).1.trans h.g,b:=by rw[(lL.Ld v ao).2];exact h.b}
theorem LC{k:Int}{v:Sk}(h:oH k v)(n:Int):oH k (b_ v n).2:=
 {i:=h.i.done n,kr:=h.kr,g:=by rw[show(b_ v n).2.sp=v.sp by unfold b_;split<;>rfl];exact h.g,b:=by rw[show(b_ v n).2.md=v.md by unfold b_;split<;>rfl];exact h.b}
structure Ag(k i:Int)(s:Pm):Prop where
 v:oH k s.v
 id:s.v.id=i
 q:iQ s.q
theorem BR(v:Sk)(ao:Int):(bY v ao).2.id=v.id:=by
 unfold bY;split
 ·exact(wT.D0 v).id
 ·show(dZ.uo v ao).2.id=v.id;unfold dZ.uo;split<;>rfl
theorem Pa(v:Sk)(n:Int):(b_ v n).2.id=v.id:=by unfold b_;split<;>rfl
theorem xR{k:Int}{v:Sk}(h:oH k v){ao:Int}(hn:U ao)(he:(bY v ao).1.2=0):Ip v ao (bY v ao).1.1 (bY v ao).2:=AL h.i hn he
theorem C0{k:Int}{v:Sk}(h:oH k v){ao:Int}(hn:U ao)(he:(bY v ao).1.2=0):U (P5 (bY v ao).1.1)∧U (ur (bY v ao).1.1):=by
 have hw:=xR h hn he;have hr:=Uz h.i (h.i.emit hn) hw;have h1:=hw.n;refine⟨⟨hr.1,by show gF _<_;omega⟩,?_⟩;show U (gS _);rw[hw.st];exact nG.Qy h.i.ok.nx hn
theorem yp{k i ao:Int}{s:Pm}(h:Ag k i s)(hn:U ao)(he:(bY s.v ao).1.2=0):Ag k i (enter i ao s).1∧fresh (enter i ao s).1.v<fresh s.v:=by
 have hs:=C0 h.v hn he;have hf:=FH h.v.i (h.v.i.emit hn) (xR h.v hn he);unfold enter;dsimp only;split
 ·exact⟨⟨rv h.v hn,(BR _ _).trans h.id,h.q.enq hs hn⟩,hf⟩
 ·exact⟨⟨LC (rv h.v hn) _,(Pa _ _).trans ((BR _ _).trans h.id),h.q.enq hs hn⟩,by rw[FG];exact hf⟩
theorem Ef{k i ao:Int}(hn:U ao):∀(n:Nat) (s:Pm),Ag k i s→Ag k i (mC i ao n s)
 |0,_,h=>h
 |n+1,s,h=>by
  unfold mC;by_cases he:(bY s.v ao).1.2=0
  ·rw[ay (λc=>c he)];have h2:=(yp h hn he).1;split
   ·exact Ef hn n _ h2
   ·exact h2
  ·rw[aC he];exact⟨rv h.v hn,(BR _ _).trans h.id,h.q⟩
theorem Ms(b a:Nat)(k:Int)(v:Mc)(hv:iH k v)(i:Nat)(x:Sk)(hx:v.so i=some x)(o:Ou)(hl:o.dr.length≤999∧o.ft.length≤999):bm (XR (some ⟨b,0⟩) (i:Int) (some ⟨a,0⟩)) (dy b v^fu a o) (λ_=>dy b (lO v i x o).2^fu a (lO v i x o).1):=
 br λw0 S R h=>by
  obtain⟨hxi,hid,hi⟩:=hv.so i x hx;have hn:=hv.un;obtain⟨p,ck,q,l,h⟩:=(h.le (aF _)).dy b;obtain⟨ap,hp,h⟩:=h.FY p v.so hi hx;have s0:Ag k i ⟨x,v.q,v.l,o⟩:=⟨hxi,hid,hv.q⟩;have eit:((i:Nat):Int).toNat=i:=eR i;have hat:Ks.un [.ptr] (((mL v.c ck p q l).drop (0+10+((i:Nat):Int).toNat*1)).take 1)=some (some ⟨ap,0⟩):=by rw[eit,LW v.c ck p q l i hi,hp]
  refine ac ⟨by omega,aj h hat ?_⟩;have aG:∀{w:World} (s:Pm),s=oA i v.ao ⟨x,v.q,v.l,o⟩→au w0 S R w (ah b (mL v.c ck p q l)^ah ck [.int .u64 v.ao]^nX q s.q^rz l s.l^kg ap s.v^uv p v.so i^fu a s.o^aT)→au w0 S R w (dy b (lO v i x o).2^fu a (lO v i x o).1):=by
   intro w s hs h;have h:=h.QG p v.so hi p (gy v.so i (some s.v)) ap s.v (λ_ _=>rfl) (λj hj=>jM v.so _ hj) hp (e_ v.so i _);have h:=h.gg b p ck q l {v with so:=gy v.so i (some s.v),q:=s.q,l:=s.l};rw[show lO v i x o=(s.o,{v with so:=gy v.so i (some s.v),q:=s.q,l:=s.l}) by unfold lO;rw[←hs]];exact h.aG
  have h:au w0 S R w0 (ah b (mL v.c ck p q l)^ah ck [.int .u64 v.ao]^nX q v.q^rz l v.l^kg ap x^uv p v.so i^fu a o^aT):=h.aG;refine gn (λ(_:Unit) (s:Pm)=>ah b (mL v.c ck p q l)^ah ck [.int .u64 v.ao]^nX q s.q^rz l s.l^kg ap s.v^uv p v.so i^fu a s.o^aT) (λ_ s=>Ag k i s∧s.o=o∧∃n,fresh s.v<n∧mC i v.ao n s=oA i v.ao ⟨x,v.q,v.l,o⟩) (λ_ s=>fresh s.v) ⟨x,v.q,v.l,o⟩ h ⟨s0,rfl,_,zh _,rfl⟩ ?_;rintro K (y:Unit) s w ⟨hs,hso,n,hfn,hN⟩ h next
  cases n with
  |zero=>omega
  |succ n=>
  unfold mC at hN;refine af (pk b v.c p ck q l v.ao) h λr w h=>?_;obtain⟨hr,h⟩:=h.aB;rw[hr];refine af (nF.Lg ap s.v hs.v.i.ok (pq hs.v.i.pc) v.ao hn) h λr w h=>?_;obtain⟨hr,h⟩:=h.aB;rw[hr];refine aA h λn7 w h=>aw h (by rfl) λw h=>ae (λce=>?_) λce=>?_
  ·have ce:(bY s.v v.ao).1.2≠0:=(by simpa using ce);rw[aC ce]at hN;exact aG {s with v:=(bY s.v v.ao).2} hN h.aG
  ·have ce:(bY s.v v.ao).1.2=0:=(by simpa using ce);rw[ay (λc=>c ce)]at hN;obtain⟨hok,hless⟩:=yp hs hn ce;have hw:=xR hs.v hn ce;have hgs:=C0 hs.v hn ce;have hgn:=hw.n;obtain⟨g,hg⟩:∃g,g=(bY s.v v.ao).1.1:=⟨_,rfl⟩;obtain⟨v',hv'⟩:∃v',v'=(bY s.v v.ao).2:=⟨_,rfl⟩;have hiv:=rv hs.v hn;have een:enter i v.ao s=if(fo s.q g v.ao).1.1=0 then(⟨v',(fo s.q g v.ao).2,(fT s.l i 0).2,s.o⟩,0)
    else(⟨(b_ v' g.2.2.1).2,(fo s.q g v.ao).2,(cd (fT s.l i 0).2 s.o g (fo s.q g v.ao).1.1).2,(cd (fT s.l i 0).2 s.o g (fo s.q g v.ao).1.1).1⟩,1):=by
    rw[hg,hv'];rfl
   rw[←hg]at hw hgs hgn;rw[←hv']at hiv hw;rw[←hg,←hv']at h;refine ac (aj (x:=some ⟨l,0⟩) h rfl (af (yP l s.l i 0) h λr w h=>?_));obtain⟨_,h⟩:=h.aB;refine aH h λw h=>ar (b:=n7) (x:=g) h rfl (ac (aj (x:=some ⟨q,0⟩) h rfl (af (pk b v.c p ck q l v.ao) h λr w h=>?_)));obtain⟨hr,h⟩:=h.aB;rw[hr];refine aI h rfl (aJ (b:=n7) h (af (C7.Ph q s.q hs.q g v.ao hgs hn) h λr w h=>?_));obtain⟨hr,h⟩:=h.aB;rw[hr];refine ae (λcf=>?_) λcf=>?_
   ·have cf:(fo s.q g v.ao).1.1=0:=(by simpa using cf);rw[aC cf]at een;rw[een]at hN hok hless;rw[aC rfl]at hN;have hless:fresh v'<fresh s.v:=hless;exact next () ⟨v',(fo s.q g v.ao).2,(fT s.l i 0).2,s.o⟩ w ⟨hok,hso,n,by show fresh v'<n;omega,hN⟩ h.aG hless
   ·have cf:¬(fo s.q g v.ao).1.1=0:=(by simpa using cf);rw[ay cf]at een;rw[een]at hN hok hless;rw[ay (by show ¬(1:Int)=0;decide)]at hN;refine ar (b:=n7) (x:=g) h rfl ?_;refine af (nI b a v.c p ck q l (fT s.l i 0).2 s.o g (fo s.q g v.ao).1.1 (by rw[hso];omega)) h λ_ w h=>?_;refine aj (x:=g.2.2.1) h rfl (af (eS.DE ap v' hiv.i.ok.out g.2.2.1 (by show gN g<_;omega)) h λr w h=>?_);obtain⟨_,h⟩:=h.aB;exact aG _ hN h.aG
end E2

namespace ES
open bB bi fg lK lV eS z9 Bw Ae qk E2
open dZ (Sk bY b_ eh ie ii cK bp dI)
open nG (mc)
open lL (oH)
theorem jj(c:Cf):bm (Wq c) aT (λr=>ex λb:Nat=>bh (r=if may c then(some ⟨b,0⟩,0)else(none,13)) (if may c then dy b (sY c)else aT)):=
 br λw0 S R h=>by
  refine aA (h.le (aF _)) λn1 w h=>ar (b:=n1) (x:=c) h rfl (af (wP.jj c) h λr w h=>?_);obtain⟨q,h⟩:=h.lX;obtain⟨hr,h⟩:=h.aB;by_cases hm:may c=true
  ·rw[aC hm]at hr h;rw[hr];refine ae (λcc=>(by cases cc)) λ_=>?_;refine aH h λw h=>ar (b:=n1) (x:=c) h rfl (af yj (h.le ((aF _).trans (aV _ _))) λr w h=>?_);obtain⟨ck,h⟩:=h.lX;obtain⟨hr,h⟩:=h.aB;rw[hr];refine aJ (b:=n1) h (af yG (h.le ((aF _).trans (aV _ _))) λr w h=>?_);obtain⟨l,h⟩:=h.lX;obtain⟨hr,h⟩:=h.aB;rw[hr];refine aJ (b:=n1) h (aA h λn7 w h=>?_);have h:au w0 S R w (ah n7 (mL c ck (λ_=>none) q l)^_):=h;have e:ns (λ_=>none) (λ_=>none)=dV (λ_=>bh ((none:Option Pt)=none) aT) 8:=rfl;have hall:∀n,Le aT (dV (λ_=>bh ((none:Option Pt)=none) aT) n):=λn=>by
    induction n with
    |zero=>exact Le.rfl
    |succ n ih=>exact(aF aT).trans (aZ (λ_ _ _ h=>⟨rfl,h⟩) ih)
   have h:au w0 S R w (ns (λ_=>none) (λ_=>none)^_):=(h.le ((aF _).trans (aV _ _))).le (aZ (by rw[e];exact hall 8) Le.rfl);have h:=h.gg n7 (λ_=>none) ck q l (sY c);refine au.gX n7 (au.aE (by rw[aC hm]) ?_);rw[aC hm];exact h.bk
  ·rw[ay hm]at hr h;rw[hr];refine ae (λ_=>?_) λcc=>(by cases cc);refine au.gX 0 (au.aE (by rw[ay hm]) ?_);rw[ay hm];exact h.fV
theorem mg(b:Nat)(v:Mc)(c:Cf):bm (Xu (some ⟨b,0⟩) c) (dy b v) (λr=>bh (r=(qO v c).1) (dy b (qO v c).2)):=
 br λw0 S R h=>by
  refine aA (h.le (aF _)) λn1 w h=>?_;obtain⟨p,ck,q,l,h⟩:=h.dy b;refine aH h λw h=>ar (b:=n1) (x:=c) h rfl (ac (aj (x:=some ⟨q,0⟩) h rfl (af (wP.mg q v.q c) h λr w h=>?_)));obtain⟨hr,h⟩:=h.aB;rw[hr];refine ae (λcc=>?_) λcc=>?_
  ·have cc:(qg v.q c).1=0:=(by simpa using cc);refine ar (b:=n1) (x:=c) h rfl (ac (az h b (mL c ck p q l) rfl rfl rfl λw h=>?_));rw[show qO v c=(0,{v with q:=(qg v.q c).2,c:=c}) by unfold qO;rw[aC cc]];exact au.aE cc (h.gg b p ck q l {v with q:=(qg v.q c).2,c:=c}).aG
  ·have cc:¬(qg v.q c).1=0:=(by simpa using cc);rw[show qO v c=((qg v.q c).1,{v with q:=(qg v.q c).2}) by unfold qO;rw[ay cc]];exact au.aE rfl (h.gg b p ck q l {v with q:=(qg v.q c).2}).aG
theorem AK(l:Nat→Ct)(o:Ou)(a:List Sg)(s:Sg):cV l o (a++[s])=cd (cV l o a).2 (cV l o a).1 s 5:=by
 induction a generalizing l o with
 |nil=>rfl
 |cons x a ih=>exact ih _ _
theorem vW(l:Nat→Ct)(o:Ou)(a:List Sg):(cV l o a).1.dr.length=o.dr.length+a.length∧(cV l o a).1.ft.length=o.ft.length+a.length:=by
 induction a generalizing l o with
 |nil=>exact⟨rfl,rfl⟩
 |cons x a ih=>
  obtain⟨h1,h2⟩:=ih (cd l o x 5).2 (cd l o x 5).1;have e1:(cd l o x 5).1.dr.length=o.dr.length+1:=by show(o.dr++[x]).length=_;simp
  have e2:(cd l o x 5).1.ft.length=o.ft.length+1:=by show(o.ft++[5]).length=_;simp
  rw[kS];show(cV (cd l o x 5).2 (cd l o x 5).1 a).1.dr.length=_∧(cV (cd l o x 5).2 (cd l o x 5).1 a).1.ft.length=_;omega
theorem vS{v:Qm}(hv:iQ v)(i:Int):(cw v i).1.length≤512:=by
 unfold cw;split
 ·show([]:List Sg).length≤512;decide
 ·split
  ·show([]:List Sg).length≤512;decide
  ·rename_i f hf;exact(hv.len hf).2
theorem Np(b a:Nat)(k:Int)(v:Mc)(hv:iH k v)(i:Nat)(hi:i<8)(o:Ou)(hl:o.dr.length≤400∧o.ft.length≤400):bm (XP (some ⟨b,0⟩) (i:Int) (some ⟨a,0⟩)) (dy b v^fu a o) (λ_=>dy b (nW v i o).2^fu a (nW v i o).1):=
 br λw0 S R h=>by
  obtain⟨p,ck,q,l,h⟩:=(h.le (aF _)).dy b;have eit:((i:Nat):Int).toNat=i:=eR i;have h:au w0 S R w0 (uv p v.so i^ah b (mL v.c ck p q l)^ah ck [.int .u64 v.ao]^nX q v.q^rz l v.l^fu a o^aT):=by
   cases hs:v.so i with
   |none=>exact(h.UO p v.so hi hs).2.aG
   |some x=>obtain⟨ap,_,h⟩:=h.FY p v.so hi hs;exact h.drop.aG
  refine ac ⟨by omega,?_⟩;rw[eit];refine az h b (mL v.c ck (vI p i none) q l) rfl (by rcases QM hi with rfl|rfl|rfl|rfl|rfl|rfl|rfl|rfl<;>rfl) (QN v.c ck p q l i hi none) λw h=>?_;have h:=h.X2 p v.so hi (vI p i none) (gy v.so i none) (λj hj=>z4 p none hj) (λj hj=>jM v.so none hj) (rZ p i none) (e_ v.so i none);refine ac (aj (x:=some ⟨q,0⟩) h rfl (af (wP.IQ q v.q hv.q (i:Int)) h λr w h=>?_));obtain⟨cl,hcl⟩:∃cl,cl=(cw v.q (i:Int)).1:=⟨_,rfl⟩;have hcn:cl.length≤512:=by rw[hcl];exact vS hv.q i
  have hrl:=(h.rd (s:=r)).2;rw[←hcl]at hrl h;have h:au w0 S R w (rz l (cV v.l o (cl.take (0:Int).toNat)).2^fu a (cV v.l o (cl.take (0:Int).toNat)).1^aP r KS cl^ah b (mL v.c ck (vI p i none) q l)^ah ck [.int .u64 v.ao]^nX q (cw v.q (i:Int)).2^ns (vI p i none) (gy v.so i none)^aT):=h.aG (A:=rz l v.l^fu a o^aP r KS cl^ah b (mL v.c ck (vI p i none) q l)^ah ck [.int .u64 v.ao]^nX q (cw v.q (i:Int)).2^ns (vI p i none) (gy v.so i none)^aT);refine gn (λ(y:Int) (_:Unit)=>rz l (cV v.l o (cl.take y.toNat)).2^fu a (cV v.l o (cl.take y.toNat)).1^aP r KS cl^ah b (mL v.c ck (vI p i none) q l)^ah ck [.int .u64 v.ao]^nX q (cw v.q (i:Int)).2^ns (vI p i none) (gy v.so i none)^aT) (λ(y:Int) _=>0≤y∧y≤cl.length) (λ(y:Int) _=>(cl.length-y.toNat)) () h ⟨by decide,by omega⟩ ?_;rintro K (y:Int) _ w ⟨h0,h1⟩ h next
  refine ae (λc=>?_) λc=>?_
  ·have c:y<((r.len:Nat):Int):=bJ c;have hy:y.toNat<cl.length:=(by omega);have hwi:IntKind.i64.wrap (y+1)=y+1:=wi (by omega) (by omega);have hin:(y+1).toNat=y.toNat+1:=(by omega);obtain⟨s,hs⟩:∃s,cl[y.toNat]?=some s:=⟨_,jG hy⟩;obtain⟨d1,d2⟩:=vW v.l o (cl.take y.toNat);have dt:(cl.take y.toNat).length≤512:=(by rw[fM];omega);refine bR (s:=r) h h0 hy (dW h r y.toNat hs rfl (aA h λn9 w h=>aw h (by rfl) λw h=>ar (b:=n9) (x:=s) h rfl ?_));refine af (nI b a v.c (vI p i none) ck q l (cV v.l o (cl.take y.toNat)).2 (cV v.l o (cl.take y.toNat)).1 s 5 (by omega)) h λ_ w h=>?_;have e:cV v.l o (cl.take (y+1).toNat)=cd (cV v.l o (cl.take y.toNat)).2 (cV v.l o (cl.take y.toNat)).1 s 5:=by
    rw[hin,lF,hs];exact AK _ _ _ _
   rw[←e]at h;rw[hwi];exact next (y+1) () w ⟨by omega,by omega⟩ h.aG (by show cl.length-(y+1).toNat<cl.length-y.toNat;omega)
  ·have c:¬y<((r.len:Nat):Int):=bQ c;rw[kp (by omega)]at h;have h:=h.gg b (vI p i none) ck q l {v with so:=gy v.so i none,q:=(cw v.q (i:Int)).2,l:=(cV v.l o cl).2};rw[show nW v i o=((cV v.l o cl).1,{v with so:=gy v.so i none,q:=(cw v.q (i:Int)).2,l:=(cV v.l o cl).2}) by unfold nW;rw[←hcl]];exact h.aG
abbrev KR:Ks:=[.int .u64,.int .u64]
structure JT(d:Dd):Prop where
 l:dL d<9223372036854775808
 u:U (dU d)
 a:U (dA d)
 c:0≤cH (dC d)∧U (cR (dC d))
theorem Nu(ap:Nat)(k:Int)(x:Sk)(hx:oH k x)(ao:Int)(hn:U ao)(d:Dd)(hd:JT d)(xs:List (Ks.T KR))(hxl:xs.length≤4294967296):bm (XQ (some ⟨ap,0⟩) d ao) (kg ap x^ba (dR d) KR xs) (λr=>bh (r=(dn x ao d xs).1) (kg ap (dn x ao d xs).2)):=
 br λw0 S R h=>by
  refine aA (h.le (aF _)) λn1 w h=>aj (x:=dK d) h rfl (ae (λc=>?_) λc=>?_)
  ·have c:dK d=2:=bV;refine aj (x:=dL d) h rfl (af (JR ap x hx.i.ok.bf (dL d) hd.l) h λr w h=>?_);obtain⟨hr,h⟩:=h.aB;rw[hr];rw[show dn x ao d xs=eh x (dL d) by unfold dn;rw[aC c]];exact au.aE rfl h.aG
  have c:¬dK d=2:=bV;refine ae (λc3=>?_) λc3=>?_
  ·have c3:dK d=3:=(by simpa using c3);refine aj (x:=dU d) h rfl (aj (x:=dR d) h rfl ?_);refine bI (A:=kg ap x) (Q:=ba (dR d) KR xs) (De.Ni ap x hx.i.ok hx.i.ps ao (dU d) hn (dR d) xs hxl) h λr w h=>?_;obtain⟨hr,h⟩:=h.aB;rw[hr];rw[show dn x ao d xs=ml.nH x ao (dU d) xs by unfold dn;rw[ay c,aC c3]];exact au.aE rfl h.aG
  have c3:¬dK d=3:=by simpa using c3
  refine ae (λc4=>?_) λc4=>?_
  ·have c4:dK d=4:=(by simpa using c4);refine af (mj.JK ap x hx.i.ok ao hn) h λr w h=>?_;obtain⟨hr,h⟩:=h.aB;rw[hr];rw[show dn x ao d xs=(0,ie x ao) by unfold dn;rw[ay c,ay c3,aC c4]];exact au.aE rfl h.aG
  ·have c4:¬dK d=4:=(by simpa using c4);refine aj (x:=dL d) h rfl (af (eS.DE ap x hx.i.ok.out (dL d) hd.l) h λr w h=>?_);obtain⟨hr,h⟩:=h.aB;rw[hr];rw[show dn x ao d xs=b_ x (dL d) by unfold dn;rw[ay c,ay c3,ay c4]];exact au.aE rfl h.aG
end ES

end Go.X
