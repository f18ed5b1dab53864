/- Contracts. -/
import Derived.Test.YtniflenfpbbikaaGreatDoorB5
set_option linter.all false
set_option autoImplicit true
set_option relaxedAutoImplicit true
namespace Go.X
open IntKind (u64 i64)
open Go.Proofs
namespace om
abbrev K8:Ks:=[.int .u8]
abbrev KD:Ks:=[.int .i64,.int .i64,.int .i64,.int .u64,.int .u64,.sl,.int .i64,.int .i64,.int .i64,.int .i64,.int .u64,.int .u64,.bool,.int .i64,.int .i64]
abbrev zD:List Lf:=[aJ 0,aJ 0,aJ 0,aC 0,aC 0,aX ⟨none,0,0⟩,aJ 0,aJ 0,aJ 0,aJ 0,aC 0,aC 0,a_ false,aJ 0,aJ 0]
abbrev Sw:=Int×Int×Int×Int×Int×Int
structure WW(x:Sw):Prop where
 a:0≤x.1∧x.1<256
 b:0≤x.2.1∧x.2.1<256
 c:0≤x.2.2.1∧x.2.2.1<256
 d:0≤x.2.2.2.1∧x.2.2.2.1<256
 e:0≤x.2.2.2.2.1∧x.2.2.2.2.1<256
 f:0≤x.2.2.2.2.2∧x.2.2.2.2.2<256
def vP(x:Sw):Bool:=x.2.2.2.2.2.tmod 2==1
def dd(x:Sw)(z:Sl):Ks.T KD:=(x.1.tmod 10,x.2.1.tmod 9,x.2.2.1*100,x.2.2.2.1*1000+x.2.2.2.2.1,x.2.2.2.1*100000000+x.2.2.2.2.1*1000000,z,x.2.2.1*100,15000,x.2.2.2.2.1,50,10000000000,x.2.2.2.1*10000,vP x,100000,1000)
def ds(x:Sw):List (Int×Int):=if vP x=true then [(x.2.2.2.2.1*100,x.2.2.2.2.1*100+x.2.2.2.2.2*100)]else []
def D8(xs:List Int)(i:Nat):Sw:=(xs.getD (6*i) 0,xs.getD (6*i+1) 0,xs.getD (6*i+2) 0,xs.getD (6*i+3) 0,xs.getD (6*i+4) 0,xs.getD (6*i+5) 0)
def nD(xs:List Int):Nat:=min 300 ((xs.length+5)/6)
def To(xs:List Int):Prop:=∀x∈xs,0≤x∧x<256
theorem sS{xs:List Int}(h:To xs)(j):0≤xs.getD j 0∧xs.getD j 0<256:=by
 rw[lB];cases hh:xs[j]? with
 |none=>exact⟨by show(0:Int)≤0;omega,by show(0:Int)<256;omega⟩
 |some x=>exact h x (jr hh)
theorem HT{xs:List Int}(h:To xs)(i):WW (D8 xs i):=⟨sS h _,sS h _,sS h _,sS h _,sS h _,sS h _⟩
abbrev DX:=Sw×Sl
def dv(p:DX):Ks.T KD:=dd p.1 p.2
def sO(p:DX):SP:=aQ p.2 KR (ds p.1)
section
variable {w0 w:World} {S0 R0:Nat→Prop}
instance{α:Type}(f:α→SP)(l:List α)[a:∀x,nt (f x)]:nt (rl f l):=by
 induction l with
 |nil=>exact inferInstanceAs (nt bg)
 |cons x l ih=>exact inferInstanceAs (nt (f x^rl f l))
instance(p:DX):nt (sO p):=by unfold sO;infer_instance
theorem qR(f x):∀l:List α,Le (rl f l^f x) (rl f (l++[x]))
 |[]=>(aU _ _)
 |y::l=>(bS _ _ _).trans (ba Le.rfl (qR f x l))
theorem S6(h:p∈l):Rd p.2 (rl sO l) KR (ds p.1):=by
 obtain⟨i,hi⟩:=tQ.1 h;exact B8 hi (by unfold sO;infer_instance)
end
abbrev pl:Ks.T [.int .i64,.int .i64,.int .i64,.int .i64,.int .u64,.int .u64,.bool,.int .i64,.int .i64]:=(3000,15000,100,50,10000000000,0,false,100000,1000)
theorem uQ:bx XI bg (λr=>br (r=pl) bg):=
 bF λw S R h=>by
  repeat' (first
   |(refine aM h λw h=>?_)
   |(refine ac ?_)
   |(refine ay h rfl ?_)
   |(refine aj h rfl ?_)
   |(refine aO h ?_)
   |(refine aN h rfl ?_)
   |(refine aA h (by rfl) λw h=>?_)
   |(refine aD h λn w h=>?_)
   |(refine aV h λw h=>?_)
   |(refine be h rfl λw h=>?_;dsimp only[dE,over]at h))
  all_goals exact au.aH rfl h.h_
theorem uO:bx XJ bg (λr=>br (r=pl) bg):=
 bF λw S R h=>by
  repeat' (first
   |(refine aM h λw h=>?_)
   |(refine ac ?_)
   |(refine ay h rfl ?_)
   |(refine aj h rfl ?_)
   |(refine aO h ?_)
   |(refine aN h rfl ?_)
   |(refine aA h (by rfl) λw h=>?_)
   |(refine aD h λn w h=>?_)
   |(refine aV h λw h=>?_)
   |(refine be h rfl λw h=>?_;dsimp only[dE,over]at h))
  all_goals exact au.aH rfl h.h_
theorem Mr(x)(hx:WW x):bx (ZJ x) bg (λr=>ex λz=>br (r=dd x z) (aQ z KR (ds x))):=
 bF λw0 S R h=>by
  have ha:=hx.a;have hb:=hx.b;have hc:=hx.c;have hd:=hx.d;have he:=hx.e;have hf:=hx.f;refine aD h λn1 w h=>aD h λn2 w h=>aM h λw h=>?_;refine Jq.AX (by decide) (Jq.AX (by decide) (Jq.AX (by decide) (Jq.AX (by decide) (Jq.AX (by decide) (Jq.AX (by decide) ?_)))));refine aj (x:=x.1) h rfl (aj (x:=x.2.1) h rfl (aj (x:=x.2.2.1) h rfl (aj (x:=x.2.2.2.1) h rfl (aj (x:=x.2.2.2.2.1) h rfl (aj (x:=x.2.2.2.2.2) h rfl ?_)))));refine aN h rfl (aN h rfl (aN h rfl (aN h rfl (aN h rfl (aN h rfl (aN h rfl (aN h rfl (aN h rfl (aN h rfl (aN h rfl (aN h rfl (aN h rfl (aN h rfl (aN h rfl ?_))))))))))))));refine aq uQ (h.le ((aG _).trans (aU _ _))) λr w h=>?_;obtain⟨hr,h⟩:=h.aP;rw[hr];have h:=h.drop;have e1:i64.wrap (x.2.2.1*100)=x.2.2.1*100:=fu;have e2:i64.wrap (x.2.2.2.1*1000)=x.2.2.2.1*1000:=fu;have e3:i64.wrap (x.2.2.2.1*1000+x.2.2.2.2.1)=x.2.2.2.1*1000+x.2.2.2.2.1:=fu;have e4:u64.wrap (x.2.2.2.1*1000+x.2.2.2.2.1)=x.2.2.2.1*1000+x.2.2.2.2.1:=iy;have e5:i64.wrap (x.2.2.2.1*100000000)=x.2.2.2.1*100000000:=fu;have e6:i64.wrap (x.2.2.2.2.1*1000000)=x.2.2.2.2.1*1000000:=fu;have e7:i64.wrap (x.2.2.2.1*100000000+x.2.2.2.2.1*1000000)=x.2.2.2.1*100000000+x.2.2.2.2.1*1000000:=fu;have e8:u64.wrap (x.2.2.2.1*100000000+x.2.2.2.2.1*1000000)=x.2.2.2.1*100000000+x.2.2.2.2.1*1000000:=iy;have e9:i64.wrap (x.2.2.2.2.1*100)=x.2.2.2.2.1*100:=fu;have e10:u64.wrap (x.2.2.2.2.1*100)=x.2.2.2.2.1*100:=iy;have e11:i64.wrap (x.2.2.2.2.2*100)=x.2.2.2.2.2*100:=fu;have e12:i64.wrap (x.2.2.2.2.1*100+x.2.2.2.2.2*100)=x.2.2.2.2.1*100+x.2.2.2.2.2*100:=fu;have e13:u64.wrap (x.2.2.2.2.1*100+x.2.2.2.2.2*100)=x.2.2.2.2.1*100+x.2.2.2.2.2*100:=iy;have e14:i64.wrap (x.2.2.2.1*10000)=x.2.2.2.1*10000:=fu;have e15:u64.wrap (x.2.2.2.1*10000)=x.2.2.2.1*10000:=iy;rw[e1,e2,e3,e4,e5,e6,e7,e8,e9,e10,e11,e12,e13,e14,e15];refine aD h λn10 w h=>aA h (by rfl) λw h=>?_;refine aS h (λ_=>ex λz=>ah n10 [aJ (x.1.tmod 10),aJ (x.2.1.tmod 9),aJ (x.2.2.1*100),aC (x.2.2.2.1*1000+x.2.2.2.2.1),aC (x.2.2.2.1*100000000+x.2.2.2.2.1*1000000),aX z,aJ 3000,aJ 15000,aJ 100,aJ 50,aC 10000000000,aC 0,a_ false,aJ 100000,aJ 1000]^ah n2 zD^aQ z KR (ds x)) (λ_=>True) (λ_ w _ h=>?_) ?_
  ·obtain⟨z,h⟩:=(h.le (aG _)).lS;refine aB h n10 [aJ (x.1.tmod 10),aJ (x.2.1.tmod 9),aJ (x.2.2.1*100),aC (x.2.2.2.1*1000+x.2.2.2.2.1),aC (x.2.2.2.1*100000000+x.2.2.2.2.1*1000000),aX z,aJ (x.2.2.1*100),aJ 15000,aJ 100,aJ 50,aC 10000000000,aC 0,a_ false,aJ 100000,aJ 1000] rfl rfl rfl λw h=>?_;refine aB h n10 [aJ (x.1.tmod 10),aJ (x.2.1.tmod 9),aJ (x.2.2.1*100),aC (x.2.2.2.1*1000+x.2.2.2.2.1),aC (x.2.2.2.1*100000000+x.2.2.2.2.1*1000000),aX z,aJ (x.2.2.1*100),aJ 15000,aJ 100,aJ 50,aC 10000000000,aC (x.2.2.2.1*10000),a_ false,aJ 100000,aJ 1000] rfl rfl rfl λw h=>?_;refine aB h n10 [aJ (x.1.tmod 10),aJ (x.2.1.tmod 9),aJ (x.2.2.1*100),aC (x.2.2.2.1*1000+x.2.2.2.2.1),aC (x.2.2.2.1*100000000+x.2.2.2.2.1*1000000),aX z,aJ (x.2.2.1*100),aJ 15000,aJ x.2.2.2.2.1,aJ 50,aC 10000000000,aC (x.2.2.2.1*10000),a_ false,aJ 100000,aJ 1000] rfl rfl rfl λw h=>?_;refine aB h n10 [aJ (x.1.tmod 10),aJ (x.2.1.tmod 9),aJ (x.2.2.1*100),aC (x.2.2.2.1*1000+x.2.2.2.2.1),aC (x.2.2.2.1*100000000+x.2.2.2.2.1*1000000),aX z,aJ (x.2.2.1*100),aJ 15000,aJ x.2.2.2.2.1,aJ 50,aC 10000000000,aC (x.2.2.2.1*10000),a_ (vP x),aJ 100000,aJ 1000] rfl rfl rfl λw h=>?_;refine ay (x:=dd x z) h rfl ?_;refine aA h (by rfl) λw h=>?_;refine ay (x:=dd x z) h rfl ?_;exact au.gI z (au.aH rfl h.aK)
  ·refine ae (λc=>?_) λc=>?_
   ·have hds:ds x=[(x.2.2.2.2.1*100,x.2.2.2.2.1*100+x.2.2.2.2.2*100)]:=aF c;refine aD h λn13 w h=>aB h n10 [aJ (x.1.tmod 10),aJ (x.2.1.tmod 9),aJ (x.2.2.1*100),aC (x.2.2.2.1*1000+x.2.2.2.2.1),aC (x.2.2.2.1*100000000+x.2.2.2.2.1*1000000),aX ⟨some ⟨n13,0⟩,1,1⟩,aJ 3000,aJ 15000,aJ 100,aJ 50,aC 10000000000,aC 0,a_ false,aJ 100000,aJ 1000] rfl rfl rfl λw h=>?_;have h:=h.ct n13 KR [(x.2.2.2.2.1*100,x.2.2.2.2.1*100+x.2.2.2.2.2*100)] rfl (by simp);have h:=h.eD (s:=⟨some ⟨n13,0⟩,1,1⟩) (K:=KR) (ys:=ds x) hds.symm;exact⟨trivial,au.gI ⟨some ⟨n13,0⟩,1,1⟩ h.aK⟩
   ·have hds:ds x=[]:=aw (by intro h';rw[vP]at h';rw[h']at c;cases c);have h:=h.nil KR;have h:=h.eD (s:=⟨none,0,0⟩) (K:=KR) (ys:=ds x) hds.symm;exact⟨trivial,au.gI ⟨none,0,0⟩ h.aK⟩
end om

namespace Xt
open om
theorem Hy(f:Nat→Sw)(k:Nat):(List.range (k+1)).map f=(List.range k).map f++[f k]:=by rw[List.range_succ,mA];rfl
def cell(l:List Int)(i j:Nat):Int:=if j<i then l.getD j 0 else 0
def cells(l:List Int)(i:Nat):List Lf:=[aJ (cell l i 0),aJ (cell l i 1),aJ (cell l i 2),aJ (cell l i 3),aJ (cell l i 4),aJ (cell l i 5)]
theorem QE(l:List Int)(hi:i<6){x:Int}(hx:l[i]?=some x):dE (cells l i) (0+i*1) [aJ x]=cells l (i+1):=by
 have e:x=l.getD i 0:=by rw[lB,hx];rfl
 rw[e];have:i=0∨i=1∨i=2∨i=3∨i=4∨i=5:=by omega
 rcases this with h|h|h|h|h|h<;>rw[h]<;>rfl
theorem VF(l:List Int)(j):cell l l.length j=l.getD j 0:=by
 unfold cell;split
 ·rfl
 ·rw[lB,q_ (by omega)];rfl
theorem QD(l:List Int):cells l l.length=Ks.mk [.int .i64,.int .i64,.int .i64,.int .i64,.int .i64,.int .i64] (l.getD 0 0,l.getD 1 0,l.getD 2 0,l.getD 3 0,l.getD 4 0,l.getD 5 0):=by
 unfold cells;simp only[VF]
 rfl
theorem ob(xs:List Int)(k j:Nat)(hj:j<6):((xs.drop k).take (min 6 (xs.drop k).length)).getD j 0=xs.getD (k+j) 0:=by
 rw[lB,lB,pn,tR];split
 ·rfl
 ·rw[q_ (by rw[nL]at*;omega)]
theorem JN(xs:List Int)(i):∀l:List Int,l=(xs.drop (6*i)).take (min 6 (xs.drop (6*i)).length)→(l.getD 0 0,l.getD 1 0,l.getD 2 0,l.getD 3 0,l.getD 4 0,l.getD 5 0)=D8 xs i:=by
 intro l hl;rw[hl,ob _ _ _ (by decide),ob _ _ _ (by decide),ob _ _ _ (by decide),ob _ _ _ (by decide),ob _ _ _ (by decide),ob _ _ _ (by decide)]
 rfl
def QR(r:Sl)(ps:List DX):SP:=aQ r KD (ps.map dv)^rl sO ps
instance(r:Sl)(ps:List DX):nt (QR r ps):=by unfold QR;infer_instance
def Cs(xs:List Int)(ps:List DX):Prop:=ps.map Prod.fst=(List.range ps.length).map (D8 xs)
theorem Cj{xs:List Int}(h:Cs xs ps)(z):Cs xs (ps++[(D8 xs ps.length,z)]):=by
 unfold Cs at*
 rw[mA,h,eQ];exact(Hy _ _).symm
section
variable {w0 w:World} {S0 R0:Nat→Prop} {G:SP}
theorem V_(h:au w0 S0 R0 w F)[Rd s F K xs](hl:s.len≠0):Ee s:=Ee.rq (h.rd (s:=s)).1 hl
end
theorem ze(b)(xs:List Int)(hb:b.len≤b.cap)(hx:To xs)(hl:xs.length≤1000000):
  bx (YX b) (bg^aZ b K8 xs) (λr=>ex λps:List DX=>br (Cs xs ps∧ps.length=nD xs) (QR r ps)):=
 bF λw0 S R h=>by
  have h:=(h.drop.nil KD);have h:au w0 S R w0 (aZ b K8 xs^QR ⟨none,0,0⟩ []):=au.aK (A:=aZ b K8 xs^aQ ⟨none,0,0⟩ KD []^bg) h;refine fV (λ(y:Sl×Sl) (ps:List DX)=>aZ b K8 xs^QR y.2 ps) (λ(y:Sl×Sl) (ps:List DX)=>Cs xs ps∧Rd y.1 (aZ b K8 xs) K8 (xs.drop (6*ps.length))∧y.1.len≤y.1.cap∧ps.length≤300∧6*ps.length<xs.length+6) (λ(y:Sl×Sl) (ps:List DX)=>xs.length-6*ps.length) [] h ⟨rfl,by show Rd b _ K8 (xs.drop 0);rw[vX];infer_instance,hb,iW _,by show 6*0<_;omega⟩ ?_;rintro K (⟨c,d⟩:Sl×Sl) ps w ⟨hu,hr,hc,h3,h6⟩ h next
  dsimp only at hr hc h⊢
  haveI:=hr
  have h:au w0 S R w (aZ b K8 xs^aQ d KD (ps.map dv)^rl sO ps):=h;have hcl:=(h.rd (s:=c)).2;have hdl:=((h.take (aQ d KD (ps.map dv))).rd (s:=d)).2;rw[nL]at hcl;rw[fy]at hdl;refine ae (λc1=>?_) λc1=>?_
  ·have c1:((c.len:Nat):Int)>0:=bZ c1;refine ae (λc2=>?_) λc2=>?_
   ·have c2:((d.len:Nat):Int)=300:=gJ;exact au.gI ps (au.aH ⟨hu,by unfold nD;omega⟩ (au.aK (A:=aQ d KD (ps.map dv)^rl sO ps) h))
   ·have c2:¬((d.len:Nat):Int)=300:=gJ;have hN:=V_ (s:=c) h (by omega);obtain⟨m,hm⟩:∃m,m=min 6 c.len:=⟨_,rfl⟩;have em:(if(6:Int)<((c.len:Nat):Int)then(6:Int)else((c.len:Nat):Int))=((m:Nat):Int):=(by split<;>omega);rw[em];obtain⟨l,hl'⟩:∃l,l=(xs.drop (6*ps.length)).take (min 6 (xs.drop (6*ps.length)).length):=⟨_,rfl⟩;have hll:l.length=m:=(by rw[hl',fU,nL];omega);have elm:(xs.drop (6*ps.length)).take m=l:=(by rw[hl',nL];congr 1;omega);refine aD h λn3 w h=>?_;refine H4 (s:=c) h hN 0 m c.cap rfl rfl rfl rfl (iW _) (by rw[nL];omega) (by omega) (by omega) λhs4 hr4=>?_;rw[elm,vX]at hr4;have hr4b:=HA c (aZ b K8 xs) K8 (xs.drop (6*ps.length)) 0 m c.cap (iW _) (by rw[nL];omega) (by omega);rw[elm,vX]at hr4b
    haveI:Rd (c.sub 0 m c.cap 1) (aZ b K8 xs) K8 l:=hr4b
    have h:au w0 S R w (ah n3 (cells l (0:Int).toNat)^aZ b K8 xs^aQ d KD (ps.map dv)^rl sO ps):=h;refine cZ (λi:Int=>ah n3 (cells l i.toNat)^aZ b K8 xs^aQ d KD (ps.map dv)^rl sO ps) (λi:Int=>0≤i∧i≤m) (λi:Int=>m-i.toNat) h ⟨ig 0,by omega⟩ ?_;rintro(i:Int) w ⟨i0,i1⟩ h;refine ae (λc3=>?_) λc3=>?_
    ·have c3:i<(((c.sub 0 m c.cap 1).len:Nat):Int):=bZ c3;rw[hs4]at c3;have hi:i.toNat<l.length:=(by omega);obtain⟨x,hx1⟩:∃x,l[i.toNat]?=some x:=⟨_,bV hi⟩;have hxm:x∈xs:=List.mem_of_mem_drop (Dl (by rw[←hl'];exact jr hx1));have hxb:=hx x hxm;refine bT (s:=c.sub 0 m c.cap 1) h i0 hi (eE h (c.sub 0 m c.cap 1) i.toNat hx1 rfl (Jq.AX ⟨i0,by omega⟩ ?_));rw[fu (n:=x)];have ei:(i+1).toNat=i.toNat+1:=(by omega);refine aB h n3 (cells l (i.toNat+1)) rfl ?_ (QE l (by omega) hx1) λw h=>?_
     ·show Nat.ble (0+i.toNat*1+1) 6=true;rw[xC];omega
     ·rw[fu (n:=i+1)];refine⟨⟨⟨by show(0:Int)≤i+1;omega,by show i+1≤_;omega⟩,?_⟩,by show m-(i+1).toNat<_;omega⟩;show au w0 S R w (ah n3 (cells l (i+1).toNat)^_);rw[ei];exact h
    ·have c3:¬i<(((c.sub 0 m c.cap 1).len:Nat):Int):=cd c3;rw[hs4]at c3;have ei:i.toNat=l.length:=(by omega);rw[ei,QD,JN xs ps.length l hl']at h;refine H4 (s:=c) h hN m c.len c.cap rfl rfl rfl rfl (by omega) (by rw[nL];omega) hc (eM _) λhs9 _=>?_;have hr9:=HA c (aZ b K8 xs) K8 (xs.drop (6*ps.length)) m c.len c.cap (by omega) (by rw[nL];omega) hc;refine ay (x:=D8 xs ps.length) h rfl ?_;refine aq (Mr (D8 xs ps.length) (HT hx _)) (h.le ((aG _).trans (aU _ _))) λr w h=>?_;obtain⟨z,h⟩:=h.lS;obtain⟨hr',h⟩:=h.aP;rw[hr'];refine aD h λn12 w h=>?_;have h:=h.ct n12 KD [dd (D8 xs ps.length) z] rfl (by simp);have h:au w0 S R w (aQ ⟨some ⟨n12,0⟩,1,1⟩ KD [dd (D8 xs ps.length) z]^aQ d KD (ps.map dv)^aZ b K8 xs^rl sO ps^aQ z KR (ds (D8 xs ps.length))):=h.aK;refine dF (s:=d) (x:=⟨some ⟨n12,0⟩,1,1⟩) h rfl (by rw[fy,gO];omega) λs13 w hs13 h=>?_;have h:au w0 S R w ((aZ b K8 xs^aQ s13 KD (ps.map dv++[dd (D8 xs ps.length) z]))^(rl sO ps^aQ z KR (ds (D8 xs ps.length)))):=h.aK;have h:=h.le (ba Le.rfl (qR sO (D8 xs ps.length,z) ps));have ed:ps.map dv++[dd (D8 xs ps.length) z]=(ps++[(D8 xs ps.length,z)]).map dv:=(by rw[mA];rfl);rw[ed]at h;refine next (c.sub m c.len c.cap 1,s13) (ps++[(D8 xs ps.length,z)]) w ⟨Cj hu z,?_,?_,?_,?_⟩ (h.le (bS _ _ _)) ?_
     ·have e1:(((xs.drop (6*ps.length)).take c.len).drop m)=xs.drop (6*(ps++[(D8 xs ps.length,z)]).length):=by
       rw[kF (by rw[nL];omega),Hq,eQ,gO];by_cases hh:6≤c.len
       ·congr 1;omega
       ·rw[FA (by omega),FA (by omega)]
      rw[e1]at hr9;exact hr9
     ·show c.len-m≤c.cap-m;omega
     ·rw[eQ,gO];omega
     ·rw[eQ,gO];omega
     ·show xs.length-6*(ps++[(D8 xs ps.length,z)]).length<xs.length-6*ps.length;rw[eQ,gO];omega
  ·have c1:¬((c.len:Nat):Int)>0:=cd c1;exact au.gI ps (au.aH ⟨hu,by unfold nD;omega⟩ (au.aK (A:=aQ d KD (ps.map dv)^rl sO ps) h))
end Xt

namespace Zt
open om Xt
theorem Tz(b)(i:Int)(xs:List Int)(h0:0≤i)(hx:To xs):bx (SF b i) (bg^aZ b K8 xs) (λr=>br (r=xs.getD i.toNat 0) bg):=
 bF λw0 S R h=>by
  have h:=h.drop;have hl:=(h.rd (s:=b)).2;refine ae (λc=>?_) λc=>?_
  ·have c:i<((b.len:Nat):Int):=bZ c;have hi:i.toNat<xs.length:=(by omega);obtain⟨x,hx1⟩:∃x,xs[i.toNat]?=some x:=⟨_,bV hi⟩;have hxb:=hx x (jr hx1);refine bT (s:=b) h h0 hi (eE h b i.toNat hx1 rfl ?_);rw[fu (n:=x)];exact au.aH (by rw[lB,hx1];rfl) h.h_
  ·have c:¬i<((b.len:Nat):Int):=cd c;exact au.aH (by rw[lB,q_ (by omega)];rfl) h.h_
theorem FF(b)(xs:List Int)(hx:To xs)(hl:xs.length≤1000000):
  bx (ZD b) (bg^aZ b K8 xs) (λr=>ex λps:List DX=>br (Cs xs ps∧ps.length=nD xs) (QR r ps)):=
 bF λw0 S R h=>by
  have hbl:=((h.take (aZ b K8 xs)).rd (s:=b)).2;have h:=(h.drop.nil KD);have h:au w0 S R w0 (aZ b K8 xs^QR ⟨none,0,0⟩ []):=au.aK (A:=aZ b K8 xs^aQ ⟨none,0,0⟩ KD []^bg) h;refine fV (λ(y:Sl×Int) (ps:List DX)=>aZ b K8 xs^QR y.1 ps) (λ(y:Sl×Int) (ps:List DX)=>Cs xs ps∧y.2=6*ps.length∧ps.length≤300∧6*ps.length<xs.length+6) (λ(y:Sl×Int) (ps:List DX)=>xs.length-6*ps.length) [] h ⟨rfl,rfl,iW _,by show 6*0<_;omega⟩ ?_;rintro K (⟨d,i⟩:Sl×Int) ps w ⟨hu,hi,h3,h6⟩ h next
  dsimp only at hi h⊢;have hi:(i:Int)=6*ps.length:=hi;have h:au w0 S R w (aZ b K8 xs^aQ d KD (ps.map dv)^rl sO ps):=h;have hdl:=((h.take (aQ d KD (ps.map dv))).rd (s:=d)).2;rw[fy]at hdl;refine ae (λc=>?_) λc=>?_
  ·have c:i<((b.len:Nat):Int)∧((d.len:Nat):Int)<300:=cS;obtain⟨x,hx1⟩:∃x,x=D8 xs ps.length:=⟨_,rfl⟩;have ok:WW x:=(by rw[hx1];exact HT hx _);have ha:=ok.a;have hb:=ok.b;have hc:=ok.c;have hd:=ok.d;have he:=ok.e;have hf:=ok.f;rw[fu (n:=i+1),fu (n:=i+2),fu (n:=i+3),fu (n:=i+4),fu (n:=i+5),fu (n:=i+6)];have g0:xs.getD i.toNat 0=x.1:=(by rw[hx1,show i.toNat=6*ps.length by omega];rfl);have g1:xs.getD (i+1).toNat 0=x.2.1:=(by rw[hx1,show(i+1).toNat=6*ps.length+1 by omega];rfl);have g2:xs.getD (i+2).toNat 0=x.2.2.1:=(by rw[hx1,show(i+2).toNat=6*ps.length+2 by omega];rfl);have g3:xs.getD (i+3).toNat 0=x.2.2.2.1:=(by rw[hx1,show(i+3).toNat=6*ps.length+3 by omega];rfl);have g4:xs.getD (i+4).toNat 0=x.2.2.2.2.1:=(by rw[hx1,show(i+4).toNat=6*ps.length+4 by omega];rfl);have g5:xs.getD (i+5).toNat 0=x.2.2.2.2.2:=(by rw[hx1,show(i+5).toNat=6*ps.length+5 by omega];rfl);have ca:∀{w:World} {G:SP} {Q:Int→WP} {j:Int},0≤j→∀v:Int,xs.getD j.toNat 0=v→au w0 S R w (aZ b K8 xs^aQ d KD (ps.map dv)^rl sO ps)→(∀w',au w0 S R w' (aZ b K8 xs^aQ d KD (ps.map dv)^rl sO ps)→Q v w')→call Tryz.prog wN [.lf (.sl b),.lf (.int .i64 j)] [.lf (.int .i64)] Q w:=by
    intro w G Q j hj v hv h k;refine bR (A:=bg) (Q:=aZ b K8 xs) (Tz b j xs hj hx) (h.le ((aG _).trans (aU _ _))) λr w h=>?_;obtain⟨hr,h⟩:=h.aP;rw[hr,hv];exact k w h.drop
   refine ca (G:=bg) (by omega) x.1 g0 h λw h=>?_;refine ca (G:=bg) (by omega) x.2.1 g1 h λw h=>?_;refine ca (G:=bg) (by omega) x.2.2.1 g2 h λw h=>?_;refine ca (G:=bg) (by omega) x.2.2.2.1 g3 h λw h=>?_;refine ca (G:=bg) (by omega) x.2.2.2.2.1 g4 h λw h=>?_;refine ca (G:=bg) (by omega) x.2.2.2.2.2 g5 h λw h=>?_;refine aq uO (h.le ((aG _).trans (aU _ _))) λr w h=>?_;obtain⟨hr,h⟩:=h.aP;rw[hr];have h:=h.drop;have e1:i64.wrap (x.2.2.1*100)=x.2.2.1*100:=fu;have e2:i64.wrap (x.2.2.2.1*1000)=x.2.2.2.1*1000:=fu;have e3:i64.wrap (x.2.2.2.1*1000+x.2.2.2.2.1)=x.2.2.2.1*1000+x.2.2.2.2.1:=fu;have e4:u64.wrap (x.2.2.2.1*1000+x.2.2.2.2.1)=x.2.2.2.1*1000+x.2.2.2.2.1:=iy;have e5:i64.wrap (x.2.2.2.1*100000000)=x.2.2.2.1*100000000:=fu;have e6:i64.wrap (x.2.2.2.2.1*1000000)=x.2.2.2.2.1*1000000:=fu;have e7:i64.wrap (x.2.2.2.1*100000000+x.2.2.2.2.1*1000000)=x.2.2.2.1*100000000+x.2.2.2.2.1*1000000:=fu;have e8:u64.wrap (x.2.2.2.1*100000000+x.2.2.2.2.1*1000000)=x.2.2.2.1*100000000+x.2.2.2.2.1*1000000:=iy;have e9:i64.wrap (x.2.2.2.2.1*100)=x.2.2.2.2.1*100:=fu;have e10:u64.wrap (x.2.2.2.2.1*100)=x.2.2.2.2.1*100:=iy;have e11:i64.wrap (x.2.2.2.2.2*100)=x.2.2.2.2.2*100:=fu;have e12:i64.wrap (x.2.2.2.2.1*100+x.2.2.2.2.2*100)=x.2.2.2.2.1*100+x.2.2.2.2.2*100:=fu;have e13:u64.wrap (x.2.2.2.2.1*100+x.2.2.2.2.2*100)=x.2.2.2.2.1*100+x.2.2.2.2.2*100:=iy;have e14:i64.wrap (x.2.2.2.1*10000)=x.2.2.2.1*10000:=fu;have e15:u64.wrap (x.2.2.2.1*10000)=x.2.2.2.1*10000:=iy;rw[e1,e2,e3,e4,e5,e6,e7,e8,e9,e10,e11,e12,e13,e14,e15];refine aD h λn10 w h=>aA h (by rfl) λw h=>?_;refine aB h n10 [aJ (x.2.2.1*100),aJ 15000,aJ 100,aJ 50,aC 10000000000,aC 0,a_ false,aJ 100000,aJ 1000] rfl rfl rfl λw h=>?_;refine aB h n10 [aJ (x.2.2.1*100),aJ 15000,aJ 100,aJ 50,aC 10000000000,aC (x.2.2.2.1*10000),a_ false,aJ 100000,aJ 1000] rfl rfl rfl λw h=>?_;refine aB h n10 [aJ (x.2.2.1*100),aJ 15000,aJ x.2.2.2.2.1,aJ 50,aC 10000000000,aC (x.2.2.2.1*10000),a_ false,aJ 100000,aJ 1000] rfl rfl rfl λw h=>?_;refine aB h n10 [aJ (x.2.2.1*100),aJ 15000,aJ x.2.2.2.2.1,aJ 50,aC 10000000000,aC (x.2.2.2.1*10000),a_ (vP x),aJ 100000,aJ 1000] rfl rfl rfl λw h=>?_;refine ay (x:=(x.2.2.1*100,15000,x.2.2.2.2.1,50,10000000000,x.2.2.2.1*10000,vP x,100000,1000)) h rfl ?_;refine aD h λn12 w h=>aA h (by rfl) λw h=>?_;refine aS h (λ_=>ex λz=>ah n12 (Ks.mk KD (dd x z))^aQ z KR (ds x)^aZ b K8 xs^aQ d KD (ps.map dv)^rl sO ps) (λ_=>True) (λ_ w _ h=>?_) ?_
   ·obtain⟨z,h⟩:=(h.le (aG _)).lS;refine ay (x:=dd x z) h rfl ?_;refine aD h λn17 w h=>?_;have h:=h.ct n17 KD [dd x z] rfl (by simp);have h:au w0 S R w (aQ ⟨some ⟨n17,0⟩,1,1⟩ KD [dd x z]^aQ d KD (ps.map dv)^aZ b K8 xs^rl sO ps^aQ z KR (ds x)):=h.aK;refine dF (s:=d) (x:=⟨some ⟨n17,0⟩,1,1⟩) h rfl (by rw[fy,gO];omega) λs18 w hs18 h=>?_;have h:au w0 S R w ((aZ b K8 xs^aQ s18 KD (ps.map dv++[dd x z]))^(rl sO ps^aQ z KR (ds x))):=h.aK;have h:=h.le (ba Le.rfl (qR sO (x,z) ps));have ed:ps.map dv++[dd x z]=(ps++[(x,z)]).map dv:=by rw[mA];rfl
    rw[ed]at h;refine next (s18,i+6) (ps++[(x,z)]) w ⟨by rw[hx1];exact Cj hu z,?_,?_,?_⟩ (h.le (bS _ _ _)) ?_
    ·show i+6=6*(((ps++[(x,z)]).length:Nat):Int);rw[eQ,gO];omega
    ·rw[eQ,gO];omega
    ·rw[eQ,gO];omega
    ·show xs.length-6*(ps++[(x,z)]).length<xs.length-6*ps.length;rw[eQ,gO];omega
   ·refine ae (λc=>?_) λc=>?_
    ·have hds:ds x=[(x.2.2.2.2.1*100,x.2.2.2.2.1*100+x.2.2.2.2.2*100)]:=aF c;refine aD h λn15 w h=>aB h n12 (Ks.mk KD (dd x ⟨some ⟨n15,0⟩,1,1⟩)) rfl rfl rfl λw h=>?_;have h:=h.ct n15 KR [(x.2.2.2.2.1*100,x.2.2.2.2.1*100+x.2.2.2.2.2*100)] rfl (by simp);have h:=h.eD (s:=⟨some ⟨n15,0⟩,1,1⟩) (K:=KR) (ys:=ds x) hds.symm;exact⟨trivial,au.gI ⟨some ⟨n15,0⟩,1,1⟩ h.aK⟩
    ·have hds:ds x=[]:=aw (by intro h';rw[vP]at h';rw[h']at c;cases c);have h:=h.nil KR;have h:=h.eD (s:=⟨none,0,0⟩) (K:=KR) (ys:=ds x) hds.symm;have h:au w0 S R w (aQ ⟨none,0,0⟩ KR (ds x)^ah n12 (Ks.mk KD (dd x ⟨none,0,0⟩))^aZ b K8 xs^aQ d KD (ps.map dv)^rl sO ps):=au.aK (A:=aQ ⟨none,0,0⟩ KR (ds x)^ah n12 [aJ (x.1.tmod 10),aJ (x.2.1.tmod 9),aJ (x.2.2.1*100),aC (x.2.2.2.1*1000+x.2.2.2.2.1),aC (x.2.2.2.1*100000000+x.2.2.2.2.1*1000000),aX ⟨none,0,0⟩,aJ (x.2.2.1*100),aJ 15000,aJ x.2.2.2.2.1,aJ 50,aC 10000000000,aC (x.2.2.2.1*10000),a_ (vP x),aJ 100000,aJ 1000]^aZ b K8 xs^aQ d KD (ps.map dv)^rl sO ps) h;exact⟨trivial,au.gI ⟨none,0,0⟩ h.aK⟩
  ·have c:¬(i<((b.len:Nat):Int)∧((d.len:Nat):Int)<300):=cS;exact au.gI ps (au.aH ⟨hu,by unfold nD;omega⟩ (au.aK (A:=aQ d KD (ps.map dv)^rl sO ps) h))
end Zt

namespace WZ
open om Xt Zt
theorem xd{w0 w:World}{S0 R0:Nat→Prop}{F:SP}{r:Sl}{ps:List DX}(h:au w0 S0 R0 w (QR r ps^F)):au w0 S0 R0 w (aQ r KD (ps.map dv)^rl sO ps^F):=h.le (bS _ _ _)
instance(F:SP):rj (Cp.zM ⟨none,0,0⟩ []) F:=by
 unfold Cp.zM;exact inferInstanceAs (rj (aZ ⟨none,0,0⟩ Cp.gn []^bg) F)
theorem l53:(⟨#[53,10]⟩:ByteArray)=rD.bA [53,10]:=rfl
theorem BA:bx Px bg (λr=>br (r=true) bg):=
 bF λw0 S R h=>by
  refine aD h λn1 w h=>?_;have h:=h.ct n1 K8 [1,2] rfl (by simp);refine bR (A:=bg) (Q:=aZ ⟨some ⟨n1,0⟩,2,2⟩ K8 [1,2]) (ze ⟨some ⟨n1,0⟩,2,2⟩ [1,2] (eM _) (by intro x hx;simp at hx;omega) (by decide)) (h.le ((aG _).trans (aU _ _))) λr w h=>?_;obtain⟨ps,h⟩:=h.lS;obtain⟨⟨hu,hn⟩,h⟩:=h.aP;have h:=xd h;have hn:ps.length=1:=hn;obtain⟨p,hp⟩:∃p,ps[0]?=some p:=⟨_,bV (by omega)⟩;have hp1:p.1=(1,2,0,0,0,0):=by
   unfold Cs at hu;rw[hn]at hu;have:=dm (λl=>l[0]?) hu;simp only[kV,hp,rf]at this;have h2:some p.1=some ((1,2,0,0,0,0):Sw):=this;exact kG h2
  have hpf:(ps.map dv)[0]?=some (dv p):=by rw[kV,hp];rfl
  have hr:=(h.rd (s:=r)).2;rw[fy,hn]at hr;have hl1:(0:Int).toNat<(ps.map dv).length:=by rw[fy,hn];decide
  refine ae (λ_=>?_) λc=>absurd c (by rw[hr];decide);refine bT (s:=r) h (ig 0) hl1 (eh h r 0 0 (dv p) hpf rfl (by decide) (x:=(dv p).1) rfl ?_);refine ae (λ_=>?_) λc=>absurd c (by unfold dv;rw[hp1];show ¬((_:Bool)=false);simp[dd]);refine bT (s:=r) h (ig 0) hl1 (eh h r 0 1 (dv p) hpf rfl (by decide) (x:=(dv p).2.1) rfl ?_);refine ae (λ_=>?_) λc=>absurd c (by unfold dv;rw[hp1];show ¬((_:Bool)=false);simp[dd]);refine aD h λn7 w h=>?_;have h:=h.ct n7 Cp.KI [5] rfl (by simp);have h:au w0 S R w (yg.kX false^aQ ⟨some ⟨n7,0⟩,1,1⟩ Cp.KI [5]):=h.bq.le ((aG _).trans (aU _ _));refine bR (A:=bg) (Q:=yg.kX false^Cp.zM ⟨none,0,0⟩ []^aZ ⟨some ⟨n7,0⟩,1,1⟩ Cp.KI [5]) (Cp.FU false ⟨none,0,0⟩ ⟨some ⟨n7,0⟩,1,1⟩ [] [5] (λ_ h=>by cases h) (by decide) (by decide) (λ_=>⟨λ_ h=>(by cases h),by decide⟩)) (h.le ((aG _).trans (aU _ _))) λr8 w h=>?_;obtain⟨hr8,h⟩:=h.aP;have h:=h.drop;have e5:rD.YJ (([]:List Cp.OT).map Cp.nW) [5]=[53,10]:=by
   show(rD.dg 5++([]++[10]):List UInt8)=_;rw[show rD.dg 5=[53]from _root_.Go.Lib.decDigits_one (i:=5) (by decide)]
   rfl
  refine ae (λ_=>?_) λc=>absurd c (by rw[hr8,e5,l53];simp);refine aq uQ (h.le ((aG _).trans (aU _ _))) λr9 w h=>?_;obtain⟨hr9,h⟩:=h.aP;refine aq uO h λr10 w h=>?_;obtain⟨hr10,h⟩:=h.aP;rw[hr9,hr10];exact au.aH rfl h.h_
end WZ

namespace W4
open bK bp fh lJ mh fe xQ A1 yM qA A2 Cm D2 K9 K_ La Pq Ln Tp
def mZ(v:Mc)(ps:List Lq):Nat→List Ou
 |0=>[]
 |j+1=>mZ v ps j++[(nj (kO v ps j) (uG ps j).1 (uG ps j).2).1.1]
theorem zN(v ps):∀j,(mZ v ps j).length=j
 |0=>rfl
 |j+1=>by show(mZ v ps j++[_]).length=_;rw[eQ,zN v ps j];rfl
abbrev OR:=Ks.T gn×Ou
def oR(x:OR):SP:=np x.1 x.2
instance(x:OR):nt (oR x):=by unfold oR;infer_instance
theorem Om(f)(h:∀x,nt (f x)):∀l:List α,nt (rl f l)
 |[]=>by unfold rl;infer_instance
 |x::l=>by have:=Om f h l;have:=h x;unfold rl;infer_instance
instance(l:List OR):nt (rl oR l):=Om oR inferInstance l
theorem qR(f x):∀l:List α,Le (rl f l^f x) (rl f (l++[x]))
 |[]=>(aU _ _)
 |y::l=>(bS _ _ _).trans (ba Le.rfl (qR f x l))
def KV(r:Sl×Sl)(rs:List OR)(es:List Int):SP:=aQ r.1 gn (rs.map Prod.fst)^aQ r.2 KI es^rl oR rs
instance(r:Sl×Sl)(rs:List OR)(es:List Int):nt (KV r rs es):=by unfold KV;infer_instance
theorem OG(c)(hm:may c=true)(hc:yq c)(s ps)(hl:ps.length≤1000)(hd:∀p∈ps,H_ p.1)(hx:∀p∈ps,p.2.length≤4294967296):bx (c9 c s) (bg^nU s ps)
  (λr=>ex λrs:List OR=>br (rs.map Prod.snd=mZ (eF c) ps ps.length) (KV r rs (fS (eF c) ps ps.length))):=
 bF λw0 S R h=>by
  have hsl:=(h.rd (s:=s)).2;rw[fy]at hsl;refine aD h λn1 w h=>ay (b:=n1) (x:=c) h rfl (aq (Cm.ku c) (h.le ((aG _).trans (aU _ _))) λr w h=>?_);obtain⟨b,h⟩:=h.lS;obtain⟨hr,h⟩:=h.aP;rw[aF hm]at hr h;rw[hr];refine ae (λc=>(by cases c)) λ_=>?_;have h:=h.nil gn;have h:=h.nil KI;have h:au w0 S R w (gW b (kO (eF c) ps (0:Int).toNat)^aQ ⟨none,0,0⟩ gn (([]:List OR).map Prod.fst)^aQ ⟨none,0,0⟩ KI (fS (eF c) ps (0:Int).toNat)^rl oR []^nU s ps):=au.aK (A:=gW b (eF c)^aQ ⟨none,0,0⟩ gn []^aQ ⟨none,0,0⟩ KI []^bg^nU s ps) h;refine fV (λ(y:Sl×Sl×Int) (rs:List OR)=>gW b (kO (eF c) ps y.2.2.toNat)^aQ y.1 gn (rs.map Prod.fst)^aQ y.2.1 KI (fS (eF c) ps y.2.2.toNat)^rl oR rs^nU s ps) (λ(y:Sl×Sl×Int) rs=>(0≤y.2.2∧y.2.2≤ps.length)∧rs.map Prod.snd=mZ (eF c) ps y.2.2.toNat) (λ(y:Sl×Sl×Int) _=>((ps.length:Int)-y.2.2).toNat) [] h ⟨⟨ig 0,by show(0:Int)≤_;omega⟩,rfl⟩ ?_;rintro K (y:Sl×Sl×Int) rs w ⟨hyr,hrl⟩ h next
  obtain⟨y1,y2,y3⟩:=y;dsimp only at hyr hrl h next⊢
  have hrs:rs.length=y3.toNat:=by have:=dm List.length hrl;rw[fy,zN]at this;exact this
  refine ae (λc0=>?_) λc0=>?_
  ·have c0:y3<((s.len:Nat):Int):=bZ c0;have hlt:y3.toNat<ps.length:=(by omega);obtain⟨p,hpi⟩:∃p,ps[y3.toNat]?=some p:=⟨_,gG hlt⟩;have hpa:uG ps y3.toNat=p:=(by unfold uG;rw[lB,hpi];rfl);have hdm:(ps.map Prod.fst)[y3.toNat]?=some p.1:=(by rw[kV,hpi];rfl);have hdl:y3.toNat<(ps.map Prod.fst).length:=(by rw[fy];exact hlt);have hmem:=jr hpi;refine bT (s:=s) h hyr.1 hdl (eE h s y3.toNat hdm rfl ?_);refine aD h λn9 w h=>aB h n9 (Ks.mk KD p.1) rfl rfl rfl λw h=>ay (b:=n9) (x:=p.1) h rfl ?_
   haveI:=S4 hpi
   have hv:=wj hc hd y3.toNat (by omega) (by omega);have h:au w0 S R w (gW b (kO (eF c) ps y3.toNat)^(aQ y1 gn (rs.map Prod.fst)^aQ y2 KI (fS (eF c) ps y3.toNat)^rl oR rs)^nU s ps):=h.aK;refine bR (A:=gW b (kO (eF c) ps y3.toNat)) (Q:=aZ (dR p.1) KR p.2) (VM b _ _ hv (by omega) p.1 (hd p hmem) p.2 (hx p hmem)) h λr w h=>?_;obtain⟨hre,h⟩:=h.aP;obtain⟨ro,re⟩:=r;dsimp only at hre h⊢;rw[←hpa]at hre h;obtain⟨on,hon⟩:∃on,on=(nj (kO (eF c) ps y3.toNat) (uG ps y3.toNat).1 (uG ps y3.toNat).2).1.1:=⟨_,rfl⟩;rw[←hon]at h;have h:au w0 S R w (np ro on^gW b (kO (eF c) ps (y3.toNat+1))^aQ y1 gn (rs.map Prod.fst)^aQ y2 KI (fS (eF c) ps y3.toNat)^rl oR rs^nU s ps):=au.aK (A:=np ro on^gW b (nj (kO (eF c) ps y3.toNat) (uG ps y3.toNat).1 (uG ps y3.toNat).2).2^aQ y1 gn (rs.map Prod.fst)^aQ y2 KI (fS (eF c) ps y3.toNat)^rl oR rs^nU s ps) h;refine aD h λn12 w h=>aB h n12 (Ks.mk gn ro) rfl rfl rfl λw h=>ay (b:=n12) (x:=ro) h rfl ?_;refine aD h λn14 w h=>?_;have h:=h.ct n14 gn [ro] rfl (by simp);have h:au w0 S R w (aQ ⟨some ⟨n14,0⟩,1,1⟩ gn [ro]^_):=h;have h:au w0 S R w (aQ y1 gn (rs.map Prod.fst)^aQ ⟨some ⟨n14,0⟩,1,1⟩ gn [ro]^np ro on^gW b (kO (eF c) ps (y3.toNat+1))^aQ y2 KI (fS (eF c) ps y3.toNat)^rl oR rs^nU s ps):=h.aK;refine dF (s:=y1) (x:=⟨some ⟨n14,0⟩,1,1⟩) h rfl (by rw[fy,hrs];show _+1≤_;omega) λs15 w _ h=>?_;refine aD h λn16 w h=>?_;have h:=h.ct n16 KI [re] rfl (by simp);have h:au w0 S R w (aQ ⟨some ⟨n16,0⟩,1,1⟩ KI [re]^_):=h;have h:au w0 S R w (aQ y2 KI (fS (eF c) ps y3.toNat)^aQ ⟨some ⟨n16,0⟩,1,1⟩ KI [re]^aQ s15 gn (rs.map Prod.fst++[ro])^np ro on^gW b (kO (eF c) ps (y3.toNat+1))^rl oR rs^nU s ps):=h.aK;refine dF (s:=y2) (x:=⟨some ⟨n16,0⟩,1,1⟩) h rfl (by rw[vo];show _+1≤_;omega) λs17 w _ h=>?_;have hwi:i64.wrap (y3+1)=y3+1:=fu;have he:fS (eF c) ps y3.toNat++[re]=fS (eF c) ps (y3.toNat+1):=(by rw[hre];rfl);have h1:(y3+1).toNat=y3.toNat+1:=(by omega);rw[hwi];have ea:rs.map Prod.fst++[ro]=(rs++[((ro,on):OR)]).map Prod.fst:=(by rw[mA];rfl);have eb:(rs++[((ro,on):OR)]).map Prod.snd=mZ (eF c) ps (y3.toNat+1):=(by rw[mA,hrl,hon];rfl);rw[he,ea]at h;have h:au w0 S R w ((gW b (kO (eF c) ps (y3.toNat+1))^aQ s15 gn ((rs++[((ro,on):OR)]).map Prod.fst)^aQ s17 KI (fS (eF c) ps (y3.toNat+1))^nU s ps)^(rl oR rs^np ro on)):=h.aK;have h:=h.le (ba Le.rfl (qR oR (ro,on) rs));refine next (s15,s17,y3+1) (rs++[(ro,on)]) w ⟨⟨by show 0≤y3+1;omega,by show y3+1≤_;omega⟩,by show _=mZ (eF c) ps (y3+1).toNat;rw[h1];exact eb⟩ ?_ (by show((ps.length:Int)-(y3+1)).toNat<((ps.length:Int)-y3).toNat;omega)
   show au w0 S R w (gW b (kO (eF c) ps (y3+1).toNat)^aQ s15 gn ((rs++[((ro,on):OR)]).map Prod.fst)^aQ s17 KI (fS (eF c) ps (y3+1).toNat)^rl oR (rs++[((ro,on):OR)])^nU s ps);rw[h1];exact h.aK
  ·have c0:¬y3<((s.len:Nat):Int):=cd c0;have e:y3.toNat=ps.length:=(by omega);rw[e]at h hrl;have h:au w0 S R w (aQ y1 gn (rs.map Prod.fst)^aQ y2 KI (fS (eF c) ps ps.length)^rl oR rs):=h.aK;exact au.gI rs (au.aH hrl h)
end W4

namespace Xu
open bK bp fh lJ mh fe xQ A1 yM qA A2 Cm D2 K9 K_ La Pq Ln Tp W4
section
variable {P:Program} {w0 w:World} {S0 R0:Nat→Prop} {F Q:SP}
theorem xO(t:wF P f args rs (bg^Q) Post)(h:au w0 S0 R0 w F)(hl:rj Q F)[hN:∀x,nt (Post x)](k:∀x w',au w0 S0 R0 w' (Post x^F)→K x w'):call P f args rs K w:=
 bR (A:=bg) (Q:=Q) (F:=bg^F) (G:=F) t (h.le ((aG _).trans (aU _ _))) k
theorem Ji(t:wF P f args rs bg Post)(h:au w0 S0 R0 w F)(k:∀x w',au w0 S0 R0 w' (Post x^F)→K x w'):call P f args rs K w:=
 aq (F:=bg^F) (G:=F) t (h.le ((aG _).trans (aU _ _))) k
theorem zz:∀{l:List α},(∀p∈l,rj (f p) F)→rj (rl f l) F
 |[],_=>M5 F
 |x::l,h=>by
  haveI:=h x (na ..)
  haveI:=zz (l:=l) λp hp=>h p (mz _ hp)
  exact oc (f x) (rl f l) F
end
structure Sx(o:Ou):Prop where
 a:o.qY.length≤1
 b:o.dr.length≤1000
 c:o.ft.length≤1000
theorem wq:Sx eZ:=⟨iW _,iW _,iW _⟩
theorem B2(i af:Int):∀(n:Nat) (s:Pm),(lY i af n s).o.qY=s.o.qY∧(lY i af n s).o.dr.length≤s.o.dr.length+1∧(lY i af n s).o.ft.length≤s.o.ft.length+1
 |0,s=>⟨rfl,uJ _,uJ _⟩
 |n+1,s=>by
  unfold lY;split
  ·exact⟨rfl,uJ _,uJ _⟩
  ·have e:((enter i af s).2=0∧(enter i af s).1.o=s.o)∨((enter i af s).2≠0∧(enter i af s).1.o.qY=s.o.qY∧(enter i af s).1.o.dr.length≤s.o.dr.length+1∧(enter i af s).1.o.ft.length≤s.o.ft.length+1):=by
    unfold enter;dsimp only;split
    ·exact .inl ⟨rfl,rfl⟩
    ·refine .inr ⟨(show(1:Int)≠0 by decide),rfl,?_,?_⟩
     ·show(s.o.dr++[_]).length≤_;rw[eQ];exact eM _
     ·show(s.o.ft++[_]).length≤_;rw[eQ];exact eM _
   rcases e with⟨e1,e2⟩|⟨e1,e2,e3,e4⟩
   ·rw[aF e1];have:=B2 i af n (enter i af s).1;rw[e2]at this;exact this
   ·rw[aw e1];exact⟨e2,e3,e4⟩
theorem JV(l o):∀a:List Sg,(dj l o a).1.qY=o.qY:=by
 intro a
 induction a generalizing l o with
 |nil=>rfl
 |cons x a ih=>exact ih _ _
theorem VL{k:Int}(hv:jp k v)(d)(xs:List (Int×Int)):Sx (nj v d xs).1.1:=by
 unfold nj;split
 ·exact wq
 show Sx (dQ v d xs).2.1;unfold dQ;split
 ·exact wq
 split
 ·show Sx (fx v eZ).1;unfold fx;split
  ·exact⟨eM _,iW _,iW _⟩
  ·dsimp only;split
   ·exact⟨iW _,iW _,iW _⟩
   ·exact wq
 split
 ·exact wq
 split
 ·show Sx (iI v d xs eZ).2.1;unfold iI;split
  ·exact wq
  split
  ·split<;>exact wq
  ·split
   ·exact wq
   split
   ·have h1:=xc v.l eZ (cz v.q ((dS d).toNat:Int)).1;have h2:=w5 hv.q ((dS d).toNat:Int);have h3:=JV v.l eZ (cz v.q ((dS d).toNat:Int)).1;refine⟨?_,?_,?_⟩
    ·show(dj v.l eZ (cz v.q ((dS d).toNat:Int)).1).1.qY.length≤1;rw[h3];exact iW _
    ·show(dj v.l eZ (cz v.q ((dS d).toNat:Int)).1).1.dr.length≤1000;have:eZ.dr.length=0:=rfl;omega
    ·show(dj v.l eZ (cz v.q ((dS d).toNat:Int)).1).1.ft.length≤1000;have:eZ.ft.length=0:=rfl;omega
   split
   ·rename_i x _ _ _ _;obtain⟨h1,h2,h3⟩:=B2 ((dS d).toNat:Int) v.af (fresh (dy x v.af d xs).2+1) ⟨(dy x v.af d xs).2,v.q,v.l,eZ⟩;have e1:eZ.dr.length=0:=rfl;have e2:eZ.ft.length=0:=rfl;refine⟨?_,?_,?_⟩
    ·show(lY _ _ _ _).o.qY.length≤1;rw[h1];exact iW _
    ·show(lY _ _ _ _).o.dr.length≤1000;exact kH h2 (show 0+1≤1000 by decide)
    ·show(lY _ _ _ _).o.ft.length≤1000;exact kH h3 (show 0+1≤1000 by decide)
   ·exact wq
 ·exact wq
theorem Fg(hc:yq c)(hd:∀p∈ps,H_ p.1):∀j:Nat,j≤1000→j≤ps.length→∀o∈mZ (eF c) ps j,Sx o
 |0,_,_=>λ_ h=>by cases h
 |j+1,h1,h2=>λo ho=>by
  rcases dX.1 ho with ho|ho
  ·exact Fg hc hd j (by omega) (by omega) o ho
  ·rw[gH.1 ho];exact VL (wj hc hd j (by omega) (by omega)) _ _
theorem S7:∀(rs:List OR) (w:World) (S R:Nat→Prop),(rl oR rs).h w S R→∀x∈rs,x.1.2.2.2=x.2.wd
 |[],_,_,_,_=>λ_ h=>by cases h
 |y::l,w,S,R,⟨_,_,_,_,h1,h2,_⟩=>λx hx=>by
  rcases dY.1 hx with e|e
  ·rw[e];exact h1.1
  ·exact S7 l _ _ _ h2 x e
theorem NC(h:au w0 S0 R0 w F)[t:Take (rl oR rs) F G]:∀x∈rs,x.1.2.2.2=x.2.wd:=by
 obtain⟨S,R,hh,_⟩:=(h.le t.le).bq.own;exact S7 rs _ _ _ hh
theorem S5(hx:x∈rs):Rd x.1.1 (rl oR rs) KS x.2.qY∧Rd x.1.2.1 (rl oR rs) KS x.2.dr∧Rd x.1.2.2.1 (rl oR rs) KI x.2.ft:=by
 obtain⟨i,hi⟩:=tQ.1 hx;have r:∀{s:Sl} {K:Ks} {ys:List (Ks.T K)},Rd s (aQ x.1.1 KS x.2.qY^aQ x.1.2.1 KS x.2.dr^aQ x.1.2.2.1 KI x.2.ft) K ys→Rd s (rl oR rs) K ys:=λ{s K ys} r=>B8 hi ⟨λw S R h=>r.rd w S R h.2,λw S R h=>r.fp w S R h.2⟩;exact⟨r inferInstance,r inferInstance,r inferInstance⟩
end Xu

namespace YW
open bK bp fh lJ mh fe xQ A1 yM qA A2 Cm D2 K9 K_ La Pq Ln Tp W4 Xu
theorem M6(r ds)[t:Rd r F KD (ds.map Prod.fst)](h:∀p∈ds,Rd (dR p.1) F KR p.2):rj (nU r ds) F:=
 oc _ _ _ (b:=zz λp hp=>by haveI:=h p hp;infer_instance)
end YW

namespace wL
open fg
abbrev KO:Ks:=Ec
abbrev Opn:=Ks.T KO
abbrev oR(o:Opn):Bool:=o.2.2.2.2.2.2.2.2.2.2
def Sj:Int→List Pc→Int→Prop
 |a,[],e=>a≤e
 |a,p::l,e=>a≤jc p∧jc p<x5 p∧(yC p=true→jP p=false)∧Sj (x5 p) l e
structure Jp(n:Nat)(v:List Pc×Int):Prop where
 chain:Sj 0 v.1 v.2
 GC:v.1.length≤n
 low:v.2≤5000*(n:Int)
theorem WS(n:Int):u64.wrap n=n%18446744073709551616:=by simp[IntKind.wrap,IntKind.bits,IntKind.signed]
theorem Ic(n a b:Int):u64.wrap (u64.wrap (n+a)-b)=u64.wrap (n+u64.wrap (a-b)):=by simp only[WS];omega
end wL

namespace Eg
open fg wL
theorem Q_(p):(if jP p then iG p true else iG p (!yC p))=fj p:=by
 obtain⟨a1,a2,a3,a4,a5,a6,a7,a8,a9⟩:=p;cases a8<;>cases a9<;>rfl
theorem DG(p a xs)(hx:xs.length≤4294967296):bx (Um p a) (bg^aZ a KR xs) (λr=>br (r=xs.any (tL p)) bg):=
 bF λw0 S R h=>by
  have ha:=(h.drop.rd (s:=a)).2;refine aD h λn w h=>?_;have h:au w0 S R w (aZ a KR xs^ah n (Ks.mk aE p)):=h.aK;refine cZ (λ(_:Int)=>aZ a KR xs^ah n (Ks.mk aE p)) (λ(i:Int)=>(0≤i∧i≤xs.length)∧xs.any (tL p)=(xs.drop i.toNat).any (tL p)) (λ(i:Int)=>xs.length-i.toNat) h ⟨⟨by simp,by simp⟩,rfl⟩ ?_;rintro(i:Int) w ⟨⟨h0,h1⟩,h2⟩ h;refine ae (λc=>?_) λc=>?_
  ·have hi:i.toNat<xs.length:=(by simp at c;omega);obtain⟨x,hx⟩:∃x,xs[i.toNat]?=some x:=⟨_,bV hi⟩;have e:(i+1).toNat=i.toNat+1:=(by omega);rw[qG hx,List.any_cons]at h2;have hgo:tL p x=false→(((0≤i64.wrap (i+1)∧i64.wrap (i+1)≤xs.length)∧xs.any (tL p)=(xs.drop (i64.wrap (i+1)).toNat).any (tL p))∧au w0 S R w (aZ a KR xs^ah n (Ks.mk aE p)))∧xs.length-(i64.wrap (i+1)).toNat<xs.length-i.toNat:=λhf=>by
    rw[fu (n:=i+1),e];rw[hf,Ah]at h2;exact⟨⟨⟨⟨by omega,by omega⟩,h2⟩,h⟩,by omega⟩
   clear hgo;refine aM h λw h=>?_;refine bT h h0 hi ?_;refine aj h rfl ?_;refine eh h a i.toNat 0 x hx rfl (by decide) rfl ?_;have hgo:tL p x=false→(((0≤i64.wrap (i+1)∧i64.wrap (i+1)≤xs.length)∧xs.any (tL p)=(xs.drop (i64.wrap (i+1)).toNat).any (tL p))∧au w0 S R w (aZ a KR xs^ah n (Ks.mk aE p)))∧xs.length-(i64.wrap (i+1)).toNat<xs.length-i.toNat:=λhf=>by
    rw[fu (n:=i+1),e];rw[hf,Ah]at h2;exact⟨⟨⟨⟨by omega,by omega⟩,h2⟩,h⟩,by omega⟩
   refine ae (λc=>?_) λc=>?_
   ·refine bT h h0 hi ?_;refine aj h rfl ?_;refine eh h a i.toNat 1 x hx rfl (by decide) rfl ?_;refine ae (λc2=>?_) λc2=>?_
    ·refine au.aH ?_ h.h_;have:tL p x=true:=by
      have c:decide (x.1≤p.1)=true:=c;have c2:decide (x.2≥p.2.1)=true:=c2;rw[tL,c,c2];rfl
     rw[h2,this];rfl
    ·exact hgo (by
      have c:decide (x.1≤p.1)=true:=c;have c2:decide (x.2≥p.2.1)=false:=c2;rw[tL,c,c2];rfl)
   ·exact hgo (by
     have c:decide (x.1≤p.1)=false:=c;rw[tL,c];rfl)
  ·have hi:i.toNat=xs.length:=(by simp at c;omega);rw[hi,Hj]at h2;exact au.aH (by rw[h2];rfl) h.h_
theorem LG{e:Int}{xs:List (Int×Int)}{i:Nat}{x:Int×Int}(h:xs[i]?=some x):(xs.take (i+1)).any (dI e)=((xs.take i).any (dI e)||dI e x):=by rw[lC,h,List.any_append];simp
def oV(b:Nat)(v:List Pc×Int)(upto:Int)(xs:List (Int×Int))(r:Sl×Int×Int):SP:=
 cond (uC v upto xs) (br (r.2.1=(cI (eR upto xs v.1)).2.1∧r.2.2=0) (aQ r.1 aE (fM upto xs v.1)^kT b ((cI (eR upto xs v.1)).1,v.2)))
  (br (r.1=⟨none,0,0⟩∧r.2.1=0∧r.2.2=11) (aQ r.1 aE []^kT b v))
end Eg

namespace Tn
open bK bp _root_.Go.X.Target gT Lm
theorem O9(w:Int):bx (Ul w false) bg (λr=>ex λn:Nat=>br (r=some ⟨n,0⟩) (ah n (ad.d_ ((Wn.mk w 0 0 0 0 0 0 0))))):=
 bF λw0 S R h=>by
  refine aD h λn w h=>?_;refine ae (λc=>(by cases c)) λ_=>?_;exact au.gI n (au.aH rfl h.aK)
def vAt(v:Wn)(i:Int):Int:=if i=0 then v.v0 else if i=1 then v.v1 else v.v2
theorem wT(b v)(x i:Int)(hi:i=0∨i=1∨i=2):bx (L7 (some ⟨b,0⟩) x i) (ah b (ad.d_ v)) (λr=>br (r=decide (x≥vAt v i)) (ah b (ad.d_ v))):=
 bF λw0 S R h=>by
  refine ac (aj h rfl ?_);refine ae (λc=>(by cases c)) λ_=>ac ⟨by omega,?_⟩;rcases hi with rfl|rfl|rfl
  ·exact aj h rfl (au.aH rfl h.aK)
  ·exact aj h rfl (au.aH rfl h.aK)
  ·exact aj h rfl (au.aH rfl h.aK)
def O8(v:Wn)(i t x:Int):Wn:=if i=1 then{v with t1:=t,v1:=x}else{v with t2:=t,v2:=x}
theorem mQ(b v)(i t x:Int)(hi:i=1∨i=2):bx (Ez (some ⟨b,0⟩) i t x) (ah b (ad.d_ v)) (λ_=>ah b (ad.d_ ((O8 v i t x)))):=
 bF λw0 S R h=>by
  refine aM h λw h=>ac (ac ⟨by omega,?_⟩);rcases hi with rfl|rfl
  ·refine aB h b (ad.d_ ({v with t1:=t})) rfl rfl rfl λw h=>⟨by omega,?_⟩;refine aB h b (ad.d_ ({v with t1:=t,v1:=x})) rfl rfl rfl λw h=>?_;exact au.bq (A:=ah b (ad.d_ ((O8 v 1 t x)))) h
  ·refine aB h b (ad.d_ ({v with t2:=t})) rfl rfl rfl λw h=>⟨by omega,?_⟩;refine aB h b (ad.d_ ({v with t2:=t,v2:=x})) rfl rfl rfl λw h=>?_;exact au.bq (A:=ah b (ad.d_ ((O8 v 2 t x)))) h
theorem Cg(b v)(t x:Int):bx (Ql (some ⟨b,0⟩) t x) (ah b (ad.d_ v)) (λ_=>ah b (ad.d_ ((v.push t x)))):=
 bF λw0 S R h=>by
  refine aM h λw h=>ac (ac (ac (ac ⟨by decide,by decide,by decide,by decide,aj h rfl (aj h rfl (aj h rfl (aj h rfl (ac ?_))))⟩)));refine aB h b (ad.d_ ({v with t0:=v.t1,t1:=v.t2,t2:=t})) rfl rfl rfl λw h=>ac ?_;refine aB h b (ad.d_ ((v.push t x))) rfl rfl rfl λw h=>?_;exact h.bq
theorem H3(b v)(t x:Int):bx (UY (some ⟨b,0⟩) t x) (ah b (ad.d_ v)) (λ_=>ah b (ad.d_ (((v.tick t).all t x)))):=
 bF λw0 S R h=>by
  refine ac (aB h b (ad.d_ ({v with t0:=t,t1:=t,t2:=t})) rfl rfl rfl λw h=>?_);refine ac (aB h b (ad.d_ ((v.all t x))) rfl rfl rfl λw h=>?_);refine ac (aj h rfl (ac ?_));refine aB h b (ad.d_ (((v.tick t).all t x))) rfl rfl rfl λw h=>?_;exact h.bq
theorem AG(b:Nat)(v:Wn)(hv:uV v)(t x:Int)(ht:U t)(hx:U x):bx (Up (some ⟨b,0⟩) t x) (ah b (ad.d_ v))
  (λr=>br (r=(AV v t x).v0) (ah b (ad.d_ ((AV v t x))))):=
 bF λw0 S R h=>by
  refine ac (aj h rfl ?_);have hT:(if v.la>t then v.la else t)=(v.tick t).la:=by
   show _=if t>v.la then t else v.la
   (repeat' split)<;>omega
  simp only[hT];refine ac (aB h b (ad.d_ ((v.tick t))) rfl rfl rfl λw h=>?_);have hu:=hv.tick ht;have e0:AV v t x=wU (v.tick t) (v.tick t).la x:=rfl;rw[e0];generalize v.tick t=u at*
  have hla:=hu.la;have ht2:=hu.t2;have hw:=hu.w;unfold U at hla ht2 hw;refine aS h (λ_=>ah b (ad.d_ u)^bg) (λy:Bool=>y=decide (x≥u.v0∨pO u.la u.t2 u.w)) (λ(y:Bool) w hy h=>?_) ?_
  ·rw[hy];refine ae (λc=>?_) λc=>?_
   ·have c:x≥u.v0∨pO u.la u.t2 u.w:=cS;refine aq (H3 b u u.la x) h λr w h=>?_;have e:wU u u.la x=u.all u.la x:=(by unfold wU;rw[aF c]);rw[e];have e2:u.tick u.la=u:=(by unfold Wn.tick;simp);rw[e2]at h;exact au.aH rfl h.bq
   have c:¬(x≥u.v0∨pO u.la u.t2 u.w):=cS;have e:wU u u.la x=wK (AU u u.la x) u.la x:=(by unfold wU;rw[aw c]);rw[e];refine aS h (λ_=>ah b (ad.d_ ((AU u u.la x)))^bg) (λ_=>True) (λ_ w _ h=>?_) ?_
   ·have hs:=hu.AU hu.la hx;have hT:=hu.la;generalize u.la=T at*
    generalize AU u T x=s at*
    refine ac ⟨by decide,aj h rfl ?_⟩;refine aI (kd T s.t0 hT hs.t0) h λw h=>?_;refine aS h (λ_=>ah b (ad.d_ ((wK s T x)))^bg) (λ_=>True) (λ_ w _ h=>?_) ?_
    ·refine ac ⟨by decide,aj h rfl ?_⟩;exact au.aH rfl h.bq
    refine ac (aj h rfl ?_);refine ae (λc1=>?_) λc1=>?_
    ·have c1:pO T s.t0 s.w:=bZ c1;refine aq (Cg b s T x) h λ_ w h=>?_;refine aM h λw h=>ac (ac ⟨by decide,aj h rfl (aj h rfl ?_)⟩);refine aI (kd T s.t1 hT hs.t1) h λw h=>?_;refine aN h rfl ?_;refine ae (λc2=>?_) λc2=>?_
     ·have c2:pO T s.t1 s.w:=bZ c2;refine aq (Cg b (s.push T x) T x) h λ_ w h=>?_;have e:wK s T x=(s.push T x).push T x:=(by unfold wK;rw[aF c1,aF c2]);rw[e];exact⟨trivial,h.aK⟩
     ·have c2:¬pO T s.t1 s.w:=cd c2;have e:wK s T x=s.push T x:=(by unfold wK;rw[aF c1,aw c2]);rw[e];exact⟨trivial,h.aK⟩
    have c1:¬pO T s.t0 s.w:=cd c1;have hf:∀k,(wK s T x=k)=((if s.t1=s.t0∧pO T s.t0 (s.w/4)then s.D7 T x else if s.t2=s.t1∧pO T s.t0 (s.w/2)then s.s2 T x else s)=k):=λk=>by unfold wK;rw[aw c1]
    have h:au w0 S R _ (ah b (ad.d_ s)^bg):=h.aK;refine aS h (λ_=>ah b (ad.d_ s)^bg) (λy:Bool=>y=decide (s.t1=s.t0∧pO T s.t0 (s.w/4))) (λ(y:Bool) w hy h=>?_) ?_
    ·rw[hy];refine ae (λc2=>?_) λc2=>?_
     ·have c2:s.t1=s.t0∧pO T s.t0 (s.w/4):=gJ;refine aq (mQ b s 1 T x (.inl rfl)) h λr w h=>?_;refine aq (mQ b (O8 s 1 T x) 2 T x (.inr rfl)) h λr w h=>?_;have e:wK s T x=s.D7 T x:=(by rw[hf,aF c2]);rw[e];have h:au w0 S R w (ah b (ad.d_ ((s.D7 T x)))^bg):=h;exact⟨trivial,h⟩
     have c2:¬(s.t1=s.t0∧pO T s.t0 (s.w/4)):=gJ;refine aM h λw h=>ac (ac ⟨by decide,by decide,aj h rfl (aj h rfl ?_)⟩);refine ae (λc3=>?_) λc3=>?_
     ·have c3:s.t2=s.t1:=(by simpa using c3);refine ac (aj h rfl ?_);rw[U2 hs.w];refine ae (λc4=>?_) λc4=>?_
      ·have c4:pO T s.t0 (s.w/2):=bZ c4;refine aq (mQ b s 2 T x (.inr rfl)) h λr w h=>?_;have e:wK s T x=s.s2 T x:=(by rw[hf,aw c2,aF ⟨c3,c4⟩]);rw[e];have h:au w0 S R w (ah b (ad.d_ ((s.s2 T x)))^bg):=h;exact⟨trivial,h⟩
      ·have c4:¬pO T s.t0 (s.w/2):=cd c4;have e:wK s T x=s:=(by rw[hf,aw c2,aw (λhh=>c4 hh.2)]);rw[e];exact⟨trivial,h⟩
     ·have c3:¬s.t2=s.t1:=(by simpa using c3);have e:wK s T x=s:=(by rw[hf,aw c2,aw (λhh=>c3 hh.1)]);rw[e];exact⟨trivial,h⟩
    ·refine aM h λw h=>ac (ac ⟨by decide,by decide,aj h rfl (aj h rfl ?_)⟩);refine ae (λc3=>?_) λc3=>?_
     ·have c3:s.t1=s.t0:=(by simpa using c3);refine ac (aj h rfl ?_);rw[U4 hs.w];exact⟨by rw[jH];simp[c3,pO],h⟩
     ·have c3:¬s.t1=s.t0:=(by simpa using c3);exact⟨by simp[c3],h⟩
   ·refine aI (wT b u x 1 (by omega)) h λw h=>?_;refine ae (λc1=>?_) λc1=>?_
    ·have c1:x≥u.v1:=bZ c1;refine aq (mQ b u 1 u.la x (.inl rfl)) h λr w h=>?_;refine aq (mQ b (O8 u 1 u.la x) 2 u.la x (.inr rfl)) h λr w h=>?_;have e:AU u u.la x=u.D7 u.la x:=(by unfold AU;rw[aF c1]);rw[e];have h:au w0 S R w (ah b (ad.d_ ((u.D7 u.la x)))^bg):=h;exact⟨trivial,h⟩
    have c1:¬x≥u.v1:=cd c1;refine aI (wT b u x 2 (by omega)) h λw h=>?_;refine ae (λc2=>?_) λc2=>?_
    ·have c2:x≥u.v2:=bZ c2;refine aq (mQ b u 2 u.la x (.inr rfl)) h λr w h=>?_;have e:AU u u.la x=u.s2 u.la x:=(by unfold AU;rw[aw c1,aF c2]);rw[e];have h:au w0 S R w (ah b (ad.d_ ((u.s2 u.la x)))^bg):=h;exact⟨trivial,h⟩
    ·have c2:¬x≥u.v2:=cd c2;have e:AU u u.la x=u:=(by unfold AU;rw[aw c1,aw c2]);rw[e];exact⟨trivial,h⟩
  ·refine aM h λw h=>?_;refine aI (wT b u x 0 (by omega)) h λw h=>?_;refine ae (λc1=>?_) λc1=>?_
   ·have c1:x≥u.v0:=bZ c1;exact⟨by simp[c1],h⟩
   have c1:¬x≥u.v0:=cd c1;refine ac ⟨by decide,aj h rfl ?_⟩;refine ae (λc2=>?_) λc2=>?_
   ·have c2:u.la>u.t2:=bZ c2;refine ac (ac ⟨by decide,aj h rfl (aj h rfl ?_)⟩);rw[iy (n:=u.la-u.t2)];have:dV u.la u.t2=u.la-u.t2:=(by unfold dV;rw[aw (by omega)]);exact⟨by rw[jH];simp[c1,pO,this],h⟩
   ·have c2:¬u.la>u.t2:=cd c2;have:¬pO u.la u.t2 u.w:=(by unfold pO dV;split<;>omega);exact⟨by simp[c1,this],h⟩
end Tn

namespace yK
open bK bp _root_.Go.X.Target gT fQ Tn
theorem tg(b nw:Nat)(v:Rm):bx (CA (some ⟨b,0⟩)) (ah b (ad.db nw v)^ah nw (ad.d_ v.m.w)) (λr=>br (r=zC v.m) (ah b (ad.db nw v)^ah nw (ad.d_ v.m.w))):=
 bF λw0 S R h=>by
  refine ac (aj h rfl (ae (λc=>?_) λc=>?_))
  ·have c:v.m.q.jl=true:=c;refine ac (aj h rfl ?_);exact au.aH (by unfold zC;rw[c];rfl) h.aK
  ·have c:v.m.q.jl=false:=c;refine ac (aj h rfl (ac ⟨by decide,aj h rfl ?_⟩));exact au.aH (by unfold zC;rw[c];rfl) h.aK
theorem OD(b nw v s)(hs:mN s):bx (Un (some ⟨b,2⟩) s) (ah b (ad.db nw v)) (λr=>br (r=rB v.m.r s) (ah b (ad.db nw ({v with m:={v.m with r:=rU v.m.r s}})))):=
 bF λw0 S R h=>by
  have h0:=hs.Ek.1;simp only[fD]at h0;repeat' (first
   |(refine aM h λw h=>?_)
   |(refine ac ?_)
   |(refine ay h rfl ?_)
   |(refine aj h rfl ?_)
   |(refine aO h ?_)
   |(refine aN h rfl ?_)
   |(refine aA h (by rfl) λw h=>?_)
   |(refine aD h λn w h=>?_)
   |(refine aV h λw h=>?_)
   |(refine be h rfl λw h=>?_;dsimp only[dE,over]at h)
   |(refine ae (λc=>?_) λc=>?_)
   |(refine⟨_,λ_ _ h=>h,?_⟩;dsimp only))
  all_goals simp only[sy,Hd,j_,Dc,ne_eq]at*
  ·have e:rB v.m.r s=false:=(by simp[rB,fD,FO];omega);exact au.aH e.symm (h.eP (b:=b) (L':=(ad.db nw ({v with m:={v.m with r:=rU v.m.r s}}))) (by simp[rU,e])).aK
  ·rename_i c1;have e:rB v.m.r s=false:=by simp[rB,fD,FO];omega
   exact au.aH e.symm (h.eP (b:=b) (L':=(ad.db nw ({v with m:={v.m with r:=rU v.m.r s}}))) (by simp[rU,e])).aK
  ·rename_i c1;have e:rB v.m.r s=true:=by simp[rB,fD,FO];omega
   exact au.aH e.symm (h.eP (b:=b) (L':=(ad.db nw ({v with m:={v.m with r:=rU v.m.r s}}))) (by simp[rU,e])).aK
theorem KG(b nw v)(hv:WV v.m.p)(st li)(bw:Int):bx (U0 (some ⟨b,4⟩) st li bw) (ah b (ad.db nw v)) (λ_=>ah b (ad.db nw ({v with m:={v.m with p:=pU v.m.p st li bw}}))):=
 bF λw0 S R h=>by
  have h0:=hv.n;have h1:=hv.full;repeat' (first
   |(refine aM h λw h=>?_)
   |(refine ac ?_)
   |(refine ay h rfl ?_)
   |(refine aj h rfl ?_)
   |(refine aO h ?_)
   |(refine aN h rfl ?_)
   |(refine aA h (by rfl) λw h=>?_)
   |(refine aD h λn w h=>?_)
   |(refine aV h λw h=>?_)
   |(refine be h rfl λw h=>?_;dsimp only[dE,over]at h)
   |(refine aq (nY _ _ _ hv.dz (bh 320) (bh 256)) h λr w h=>?_;obtain⟨hr,h⟩:=h.aP;(try dsimp only at hr h);try rw[hr])
   |(refine ae (λc=>?_) λc=>?_)
   |(refine⟨_,λ_ _ h=>h,?_⟩;dsimp only))
  ·exact(h.eP (b:=b) (L':=(ad.db nw (({v with m:={v.m with p:=pU v.m.p st li bw}})))) (by
    have e:(!v.m.p.full&&st&&!li)=false:=(by revert c;cases v.m.p.full<;>cases st<;>cases li<;>simp);simp[pU,e])).aK
  ·have c1:((v.m.p.full||(!st))||li)=false:=(by assumption);have e:(!v.m.p.full&&st&&!li)=true:=(by revert c1;cases v.m.p.full<;>cases st<;>cases li<;>simp);have c:bw≥qI v.m.p.dz 320 256:=bZ c;exact(h.eP (b:=b) (L':=(ad.db nw (({v with m:={v.m with p:=pU v.m.p st li bw}})))) (by simp only[pU,e,iF,aF c])).aK
  ·have c1:((v.m.p.full||(!st))||li)=false:=(by assumption);have e:(!v.m.p.full&&st&&!li)=true:=(by revert c1;cases v.m.p.full<;>cases st<;>cases li<;>simp);have c:¬bw≥qI v.m.p.dz 320 256:=cd c;have hf:v.m.p.full=false:=(by revert e;cases v.m.p.full<;>simp);have hn:=h1 hf;exact(h.eP (b:=b) (L':=(ad.db nw (({v with m:={v.m with p:=pU v.m.p st li bw}})))) (by
    have e3:i64.wrap (v.m.p.n+1)=v.m.p.n+1:=fu;have e4:decide (v.m.p.n+1≥3)=decide (v.m.p.n+1=3):=(by rw[jH];simp;omega);simp only[pU,e,iF,aw c,e3,e4])).aK
theorem FE(b nw v)(af ph:Int)(hp:0≤ph∧ph<100):bx (L8 (some ⟨b,7⟩) af ph) (ah b (ad.db nw v)) (λ_=>ah b (ad.db nw ({v with m:={v.m with c:=Ml af ph}}))):=
 bF λw0 S R h=>by
  have e:ph.tmod 8=ph%8:=B3 hp.1;rw[e];repeat' (first
   |(refine aM h λw h=>?_)
   |(refine ac ?_)
   |(refine ay h rfl ?_)
   |(refine aj h rfl ?_)
   |(refine aO h ?_)
   |(refine aN h rfl ?_)
   |(refine aA h (by rfl) λw h=>?_)
   |(refine aD h λn w h=>?_)
   |(refine aV h λw h=>?_)
   |(refine be h rfl λw h=>?_;dsimp only[dE,over]at h)
   |(refine ae (λc=>?_) λc=>?_)
   |(refine⟨_,λ_ _ h=>h,?_⟩;dsimp only))
  ·exfalso;have c:ph%8<0:=bZ c;omega
  ·exact(h.eP (b:=b) (L':=(ad.db nw (({v with m:={v.m with c:=Ml af ph}})))) (by simp only[Ml])).aK
theorem RG(b nw v):bx (U3 (some ⟨b,7⟩)) (ah b (ad.db nw v)) (λr=>br (r=cG v.m.c) (ah b (ad.db nw v))):=
 bF λw0 S R h=>by
  repeat' (first
   |(refine aM h λw h=>?_)
   |(refine ac ?_)
   |(refine ay h rfl ?_)
   |(refine aj h rfl ?_)
   |(refine aO h ?_)
   |(refine aN h rfl ?_)
   |(refine aA h (by rfl) λw h=>?_)
   |(refine aD h λn w h=>?_)
   |(refine aV h λw h=>?_)
   |(refine be h rfl λw h=>?_;dsimp only[dE,over]at h)
   |(refine ae (λc=>?_) λc=>?_)
   |(refine⟨_,λ_ _ h=>h,?_⟩;dsimp only))
  all_goals exact au.aH (by simp_all[cG]) h.aK
theorem Kp(b nw v)(hv:yq v.m.c)(af bX bn fl up one:Int)(hn:U af):bx (UZ (some ⟨b,7⟩) af bX bn fl up one) (ah b (ad.db nw v)) (λ_=>ah b (ad.db nw ({v with m:={v.m with c:=cU v.m.c af bX bn fl up one}}))):=
 bF λw0 S R h=>by
  have hph:=hv.ph;refine ac (aj h rfl (aq (kd af v.m.c.lh hn hv.lh) h λr w h=>?_));obtain⟨hr,h⟩:=h.aP;refine aS h (λ_=>ah b (ad.db nw v)) (λy:Bool=>y=cB v.m.c af bX bn fl up one) (λ(y:Bool) w hy h=>?_) ?_
  ·refine ae (λc=>?_) λc=>?_
   ·refine ac (aj h rfl ?_);rw[fu (n:=v.m.c.ph+1)];refine aq (FE b nw v af (v.m.c.ph+1) (by omega)) h λ_ w h=>?_;have e:cU v.m.c af bX bn fl up one=Ml af (v.m.c.ph+1):=by unfold cU;rw[←hy,c];rfl
    rw[e];exact h.bq
   ·have e:cU v.m.c af bX bn fl up one=v.m.c:=(by unfold cU;rw[←hy,c];rfl);rw[e];exact h
  ·repeat' (first
    |(refine aM h λw h=>?_)
    |(refine ac ?_)
    |(refine ay h rfl ?_)
    |(refine aj h rfl ?_)
    |(refine aO h ?_)
    |(refine aN h rfl ?_)
    |(refine aA h (by rfl) λw h=>?_)
    |(refine aD h λn w h=>?_)
    |(refine aV h λw h=>?_)
    |(refine be h rfl λw h=>?_;dsimp only[dE,over]at h)
    |(refine ae (λc=>?_) λc=>?_)
    |(refine⟨_,λ_ _ h=>h,?_⟩;dsimp only))
   all_goals refine⟨?_,h.aK⟩
   ·simp only[sy]at c;simp[cB,c,hr]
   ·rename_i c1;simp only[sy]at c;simp[cB,c,hr]
   ·rename_i c1;simp only[Hd,ne_eq]at c c1;simp only[cB,aw c,aw c1,hr]
def Rel(v:Rm):Prop:=v.m.b.on=true→v.set=decide (v.m.b.ki≠0)∧(v.set=true→v.pJ=v.m.b.ki)
abbrev wB(v:Rm)(x:Pb):Rm:={v with m:={v.m with b:=x}}
theorem HK(b nw:Nat)(v:Rm)(hv:Jp v.m.b)(hR:Rel v)(af bX fl floor:Int)(st:Bool)(hn:U af)(hrt:U bX):bx (U1 (some ⟨b,9⟩) af bX st fl floor) (ah b (ad.db nw v))
  (λr=>yj (λu:Rm=>r=(bU v.m.b af bX st fl floor).1∧u.m={v.m with b:=(bU v.m.b af bX st fl floor).2}∧Rel u∧u.g=v.g) (λu=>ah b (ad.db nw u))):=
 bF λw0 S R h=>by
  refine aS h (λ_=>ah b (ad.db nw v)) (λy:Bool=>y=Bc v.m.b af) (λ(y:Bool) w hy h=>?_) ?_
  ·rw[hy];refine aS h (λ_=>ah b (ad.db nw ((wB v (lO v.m.b af bX))))) (λ_=>True) (λ_ w _ h=>?_) ?_
   ·have eon:(lO v.m.b af bX).on=v.m.b.on:=(by unfold lO;split<;>rfl);have etil:(lO v.m.b af bX).ki=v.m.b.ki:=(by unfold lO;split<;>rfl);have hR2:Rel (wB v (lO v.m.b af bX)):=λhh=>by
     have:=hR (by rw[←eon];exact hh);simpa [etil]using this
    unfold bU;refine aS h (λ_=>ah b (ad.db nw ((wB v (lO v.m.b af bX))))) (λy:Bool=>y=(Bc v.m.b af&&!v.m.b.on)) (λ(y:Bool) w hy h=>?_) ?_
    ·rw[hy];generalize lO v.m.b af bX=x at*
     refine ae (λc=>?_) λc=>?_
     ·rw[aF c];repeat' (first
       |(refine aM h λw h=>?_)
       |(refine ac ?_)
       |(refine ay h rfl ?_)
       |(refine aj h rfl ?_)
       |(refine aO h ?_)
       |(refine aN h rfl ?_)
       |(refine aA h (by rfl) λw h=>?_)
       |(refine aD h λn w h=>?_)
       |(refine aV h λw h=>?_)
       |(refine be h rfl λw h=>?_;dsimp only[dE,over]at h))
      exact(au.r_ (h.eP (b:=b) (L':=(ad.db nw (({wB v {x with on:=true,ki:=0,rd:=false}with set:=false})))) (by simp)) {wB v {x with on:=true,ki:=0,rd:=false}with set:=false} ⟨rfl,rfl,(λ_=>⟨by simp,λhh=>by cases hh⟩),rfl⟩).bq
     rw[aw (by rw[c];simp)];refine ac (aj h rfl ?_);refine ae (λc2=>?_) λc2=>?_
     ·have c2:v.m.b.on=false:=(by rw[←eon];simpa using c2);rw[aw (by rw[c2];simp)];exact(h.r_ (wB v x) ⟨rfl,rfl,hR2,rfl⟩).bq
     have c2:v.m.b.on=true:=(by rw[←eon];simpa using c2);rw[aF c2];obtain⟨r1,r2⟩:=hR2 (eon.trans c2);refine ac (aj h rfl ?_);unfold Cw;refine ae (λc3=>?_) λc3=>?_
     ·have c3:v.set=false:=(by simpa using c3);have e3:x.ki=0:=by
       have r1:v.set=decide (x.ki≠0):=r1;rw[c3]at r1;simpa using r1.symm
      rw[aF e3];refine ae (λc4=>?_) λc4=>?_
      ·rw[aF (bZ c4)];repeat' (first
        |(refine aM h λw h=>?_)
        |(refine ac ?_)
        |(refine ay h rfl ?_)
        |(refine aj h rfl ?_)
        |(refine aO h ?_)
        |(refine aN h rfl ?_)
        |(refine aA h (by rfl) λw h=>?_)
        |(refine aD h λn w h=>?_)
        |(refine aV h λw h=>?_)
        |(refine be h rfl λw h=>?_;dsimp only[dE,over]at h)
        |(refine aq (fL af 200000000 hn (bh _)) h λr w h=>?_;obtain⟨hr,h⟩:=h.aP;(try dsimp only at hr h);try rw[hr]))
       have e4:bH af 200000000≠0:=by
        have:=hn.1;unfold bH;split<;>omega
       exact(au.r_ (h.eP (b:=b) (L':=(ad.db nw (({wB v {x with ki:=bH af 200000000,rd:=false}with set:=true,pJ:=bH af 200000000})))) (by simp)) {wB v {x with ki:=bH af 200000000,rd:=false}with set:=true,pJ:=bH af 200000000} ⟨rfl,rfl,(λ_=>⟨by simp[e4],λ_=>rfl⟩),rfl⟩).bq
      ·rw[aw (cd c4)];exact(h.r_ (wB v x) ⟨rfl,rfl,hR2,rfl⟩).bq
     have c3:v.set=true:=(by simpa using c3);have e3:x.ki≠0:=by
      have r1:v.set=decide (x.ki≠0):=r1;rw[c3]at r1;simpa using r1.symm
     have e5:v.pJ=x.ki:=r2 c3;rw[aw e3];repeat' (first
      |(refine aM h λw h=>?_)
      |(refine ac ?_)
      |(refine ay h rfl ?_)
      |(refine aj h rfl ?_)
      |(refine aO h ?_)
      |(refine aN h rfl ?_)
      |(refine aA h (by rfl) λw h=>?_)
      |(refine aD h λn w h=>?_)
      |(refine aV h λw h=>?_)
      |(refine be h rfl λw h=>?_;dsimp only[dE,over]at h))
     refine aS h (λ_=>ah b (ad.db nw ((wB v {x with rd:=x.rd||st})))) (λy:Bool=>y=((x.rd||st)&&decide (af>x.ki))) (λ(y:Bool) w hy h=>?_) ?_
     ·rw[hy];refine ae (λc4=>?_) λc4=>?_
      ·simp only[ej,j_]at c4;rw[aw (by rw[c4.1];simp),aw (by omega)];repeat' (first
        |(refine aM h λw h=>?_)
        |(refine ac ?_)
        |(refine ay h rfl ?_)
        |(refine aj h rfl ?_)
        |(refine aO h ?_)
        |(refine aN h rfl ?_)
        |(refine aA h (by rfl) λw h=>?_)
        |(refine aD h λn w h=>?_)
        |(refine aV h λw h=>?_)
        |(refine be h rfl λw h=>?_;dsimp only[dE,over]at h))
       exact(au.r_ (h.eP (b:=b) (L':=(ad.db nw (({wB v {x with rd:=x.rd||st,lh:=af,on:=false}with set:=false})))) (by simp)) {wB v {x with rd:=x.rd||st,lh:=af,on:=false}with set:=false} ⟨rfl,rfl,(λhh=>by cases hh),rfl⟩).bq
      ·have hR3:Rel (wB v {x with rd:=x.rd||st}):=λhh=>hR2 hh;by_cases c5:(x.rd||st)=true
       ·rw[aw (by rw[c5];simp),aF (by rw[c5]at c4;simp at c4;omega)];exact(h.r_ (wB v {x with rd:=x.rd||st}) ⟨rfl,rfl,hR3,rfl⟩).bq
       ·rw[aF (by simpa using c5)];exact(h.r_ (wB v {x with rd:=x.rd||st}) ⟨rfl,rfl,hR3,rfl⟩).bq
     ·repeat' (first
       |(refine aM h λw h=>?_)
       |(refine ac ?_)
       |(refine ay h rfl ?_)
       |(refine aj h rfl ?_)
       |(refine aO h ?_)
       |(refine aN h rfl ?_)
       |(refine aA h (by rfl) λw h=>?_)
       |(refine aD h λn w h=>?_)
       |(refine aV h λw h=>?_)
       |(refine be h rfl λw h=>?_;dsimp only[dE,over]at h)
       |(refine ae (λc=>?_) λc=>?_))
      ·have c:(x.rd||st)=true:=c;exact⟨by rw[c,e5];rfl,(h.eP (b:=b) (L':=(ad.db nw ((wB v {x with rd:=x.rd||st})))) (by simp)).aK⟩
      ·have c:(x.rd||st)=false:=c;exact⟨by rw[c];rfl,(h.eP (b:=b) (L':=(ad.db nw ((wB v {x with rd:=x.rd||st})))) (by simp)).aK⟩
    ·refine ae (λc=>?_) λc=>?_
     ·refine ac (aj h rfl ?_);exact⟨by rw[c,eon];rfl,h⟩
     ·exact⟨by rw[c];rfl,h⟩
   ·refine aS h (λ_=>ah b (ad.db nw v)) (λy:Bool=>y=yX v.m.b af bX) (λ(y:Bool) w hy h=>?_) ?_
    ·rw[hy];unfold lO;refine ae (λc=>?_) λc=>?_
     ·rw[aF c];repeat' (first
       |(refine aM h λw h=>?_)
       |(refine ac ?_)
       |(refine ay h rfl ?_)
       |(refine aj h rfl ?_)
       |(refine aO h ?_)
       |(refine aN h rfl ?_)
       |(refine aA h (by rfl) λw h=>?_)
       |(refine aD h λn w h=>?_)
       |(refine aV h λw h=>?_)
       |(refine be h rfl λw h=>?_;dsimp only[dE,over]at h))
      exact⟨trivial,(h.eP (b:=b) (L':=(ad.db nw ((wB v {v.m.b with dz:=bX,lh:=af})))) (by simp)).aK⟩
     ·rw[aw (by rw[c];simp)];exact⟨trivial,h⟩
    ·repeat' (first
      |(refine aM h λw h=>?_)
      |(refine ac ?_)
      |(refine ay h rfl ?_)
      |(refine aj h rfl ?_)
      |(refine aO h ?_)
      |(refine aN h rfl ?_)
      |(refine aA h (by rfl) λw h=>?_)
      |(refine aD h λn w h=>?_)
      |(refine aV h λw h=>?_)
      |(refine be h rfl λw h=>?_;dsimp only[dE,over]at h)
      |(refine ae (λc=>?_) λc=>?_))
     all_goals refine⟨?_,h.aK⟩
     all_goals simp_all[yX]
     all_goals(intro _;omega)
  ·refine ac (aj h rfl (ae (λc=>?_) λc=>?_))
   ·refine ac (aj h rfl (aI (fL v.m.b.lh 10000000000 hv.lh (bh _)) h λw h=>?_));exact⟨by unfold Bc;rw[c];rfl,h.aK⟩
   ·exact⟨by unfold Bc;rw[c];rfl,h⟩
abbrev wQ(v:Rm)(x:Pl):Rm:={v with m:={v.m with q:=x}}
theorem xG(b nw v):bx (L6 (some ⟨b,15⟩)) (ah b (ad.db nw v)) (λ_=>ah b (ad.db nw ((wQ v {v.m.q with uY:=false,bw:=0})))):=
 bF λw0 S R h=>by
  repeat' (first
   |(refine aM h λw h=>?_)
   |(refine ac ?_)
   |(refine ay h rfl ?_)
   |(refine aj h rfl ?_)
   |(refine aO h ?_)
   |(refine aN h rfl ?_)
   |(refine aA h (by rfl) λw h=>?_)
   |(refine aD h λn w h=>?_)
   |(refine aV h λw h=>?_)
   |(refine be h rfl λw h=>?_;dsimp only[dE,over]at h))
  exact(h.eP (b:=b) (L':=(ad.db nw ((wQ v {v.m.q with uY:=false,bw:=0})))) (by simp)).aK
theorem Av(b nw v s):bx (Qk (some ⟨b,15⟩) s) (ah b (ad.db nw v)) (λ_=>ah b (ad.db nw ((wQ v (lu v.m.q s))))):=
 bF λw0 S R h=>by
  repeat' (first
   |(refine aM h λw h=>?_)
   |(refine ac ?_)
   |(refine ay h rfl ?_)
   |(refine aj h rfl ?_)
   |(refine aO h ?_)
   |(refine aN h rfl ?_)
   |(refine aA h (by rfl) λw h=>?_)
   |(refine aD h λn w h=>?_)
   |(refine aV h λw h=>?_)
   |(refine be h rfl λw h=>?_;dsimp only[dE,over]at h))
  exact(h.eP (b:=b) (L':=(ad.db nw ((wQ v (lu v.m.q s))))) (by simp[lu])).aK
theorem KA(a c:Int)(ha:U a)(hc:U c):bx (Vo a c) bg (λr=>br (r=decide (apart a c≤a/8)) bg):=
 bF λw0 S R h=>by
  refine au.aH ?_ h;unfold U at ha hc;have e1:u64.wrap ((if c>a then c else a)-(if c<a then c else a))=apart a c:=by
   unfold apart;rw[wu (by(repeat' split)<;>omega) (by(repeat' split)<;>omega)]
   (repeat' split)<;>omega
  have e2:u64.wrap (a.tdiv (8:Int))=a/8:=by rw[l_ ha.1,iy]
  rw[e1,e2]
theorem PN{a b:Int}(ha:U a)(hb:U b):u64.wrap ((u64.wrap ((u64.wrap (a.tdiv (2:Int)))+(u64.wrap (b.tdiv (2:Int)))))+(u64.wrap ((u64.wrap ((a.tmod (2:Int))+(b.tmod (2:Int)))).tdiv (2:Int))))=Jz a b:=by
 unfold U at ha hb;rw[l_ ha.1,l_ hb.1,B3 ha.1,B3 hb.1];have e:u64.wrap (a%2+b%2)=a%2+b%2:=iy;rw[e,l_ (by omega)];unfold Jz;simp only[wm];omega
theorem Kw(b nw v)(hv:rn v.m.q)(s)(hs:mN s):bx (UU (some ⟨b,15⟩) s) (ah b (ad.db nw v)) (λ_=>ah b (ad.db nw ((wQ v (tG v.m.q s))))):=
 bF λw0 S R h=>by
  have hd:=nA hs.del hv.d0;have ht:=nA hs.af hv.t0;have hl:=nA hv.bn hv.l0;refine aD h λn1 w h=>?_;repeat' (first
   |(refine aM h λw h=>?_)
   |(refine ac ?_)
   |(refine ay h rfl ?_)
   |(refine aj h rfl ?_)
   |(refine aO h ?_)
   |(refine aN h rfl ?_)
   |(refine aA h (by rfl) λw h=>?_)
   |(refine aD h λn w h=>?_)
   |(refine aV h λw h=>?_)
   |(refine be h rfl λw h=>?_;dsimp only[dE,over]at h)
   |(refine aq (kd _ _ hs.del hv.d0) h λr w h=>?_;obtain⟨hr,h⟩:=h.aP;(try dsimp only at hr h);try rw[hr])
   |(refine aq (kd _ _ hv.bn hv.l0) h λr w h=>?_;obtain⟨hr,h⟩:=h.aP;(try dsimp only at hr h);try rw[hr])
   |(refine aq (kd _ _ hs.af hv.t0) h λr w h=>?_;obtain⟨hr,h⟩:=h.aP;(try dsimp only at hr h);try rw[hr]))
  refine aS h (λ_=>ah n1 (Ks.mk aW s)^ah b (ad.db nw v)) (λ_=>oF v.m.q s=some (qI (dV (gK s) v.m.q.d0) 1000000000 (dV (i_ s) v.m.q.t0))) (λ_ w hm h=>?_) ?_
  ·have hU:=Gc hv hs hm;have e:tG v.m.q s=xu v.m.q s (qI (dV (gK s) v.m.q.d0) 1000000000 (dV (i_ s) v.m.q.t0)):=(by unfold tG;rw[hm]);rw[e];repeat' (first
    |(refine aM h λw h=>?_)
    |(refine ac ?_)
    |(refine ay h rfl ?_)
    |(refine aj h rfl ?_)
    |(refine aO h ?_)
    |(refine aN h rfl ?_)
    |(refine aA h (by rfl) λw h=>?_)
    |(refine aD h λn w h=>?_)
    |(refine aV h λw h=>?_)
    |(refine be h rfl λw h=>?_;dsimp only[dE,over]at h)
    |(refine aq (nY _ _ _ hd (bh 1000000000) ht) h λr w h=>?_;obtain⟨hr,h⟩:=h.aP;(try dsimp only at hr h);try rw[hr]))
   generalize qI (dV (gK s) v.m.q.d0) 1000000000 (dV (i_ s) v.m.q.t0)=x at*
   have h:au _ _ _ _ (ah n1 (Ks.mk aW s)^ah b (ad.db nw v)):=h.aK;refine aS h (λ_=>ah n1 (Ks.mk aW s)^ah b (ad.db nw v)) (λy:Bool=>y=decide (v.m.q.bw>0∧apart v.m.q.bw x≤v.m.q.bw/8)) (λ(y:Bool) w hy h=>?_) ?_
   ·rw[hy];refine ae (λc=>?_) λc=>?_
    ·have c:v.m.q.bw>0∧apart v.m.q.bw x≤v.m.q.bw/8:=cS;have e:xu v.m.q s x={v.m.q with bw:=Jz v.m.q.bw x,jl:=true,n:=0}:=(by unfold xu;rw[aF c]);rw[e];have ea:=PN hv.bw hU;refine aM h λw h=>ac (ac (aj h rfl (aj h rfl ?_)));dsimp only;rw[ea];repeat' (first
      |(refine aM h λw h=>?_)
      |(refine ac ?_)
      |(refine ay h rfl ?_)
      |(refine aj h rfl ?_)
      |(refine aO h ?_)
      |(refine aN h rfl ?_)
      |(refine aA h (by rfl) λw h=>?_)
      |(refine aD h λn w h=>?_)
      |(refine aV h λw h=>?_)
      |(refine be h rfl λw h=>?_;dsimp only[dE,over]at h))
     exact(h.eP (b:=b) (L':=(ad.db nw ((wQ v {v.m.q with bw:=Jz v.m.q.bw x,jl:=true,n:=0})))) (by simp)).aK
    ·have c:¬(v.m.q.bw>0∧apart v.m.q.bw x≤v.m.q.bw/8):=cS;have e:xu v.m.q s x=lu {v.m.q with bw:=x} s:=(by unfold xu;rw[aw c]);rw[e];refine ac (be h rfl λw h=>?_);have h:=(h.eP (b:=b) (L':=(ad.db nw ((wQ v {v.m.q with bw:=x})))) (by simp[dE,over]));have h:au _ _ _ _ (ah n1 (Ks.mk aW s)^ah b (ad.db nw ((wQ v {v.m.q with bw:=x})))):=h.aK;refine ay (x:=s) h rfl ?_;refine aq (Av b nw (wQ v {v.m.q with bw:=x}) s) h λ_ w h=>?_;exact h.aK
   ·refine ac (aj h rfl (ae (λc=>?_) λc=>?_))
    ·refine ac (aj h rfl (aq (KA v.m.q.bw x hv.bw hU) h λr w h=>?_));obtain⟨hr,h⟩:=h.aP;have c:v.m.q.bw>0:=bZ c;exact⟨by rw[hr];simp[c],h.aK⟩
    ·have c:¬v.m.q.bw>0:=cd c;exact⟨by simp[c],h.aK⟩
  ·refine ae (λc=>?_) λc=>?_
   ·have c:dV (gK s) v.m.q.d0=0∨dV (i_ s) v.m.q.t0=0:=cS;have e:tG v.m.q s=v.m.q:=(by unfold tG oF;rw[aF c]);rw[e];exact h.aK
   have c:¬(dV (gK s) v.m.q.d0=0∨dV (i_ s) v.m.q.t0=0):=cS;refine aI (nY _ _ _ hd (bh 50) (bh 256)) h λw h=>?_;refine ae (λc2=>?_) λc2=>?_
   ·have e:tG v.m.q s=v.m.q:=(by unfold tG oF;rw[aw c,aF (bZ c2)]);rw[e];exact h.aK
   ·exact⟨by unfold oF;rw[aw c,aw (cd c2)],h.aK⟩
theorem Kx(b nw v)(hv:rn v.m.q)(o s)(hs:mN s):bx (Uo (some ⟨b,15⟩) o s) (ah b (ad.db nw v)) (λ_=>ah b (ad.db nw ((wQ v (yn v.m.q o s))))):=
 bF λw0 S R h=>by
  refine aD h λn1 w h=>?_;repeat' (first
   |(refine aM h λw h=>?_)
   |(refine ac ?_)
   |(refine ay h rfl ?_)
   |(refine aj h rfl ?_)
   |(refine aO h ?_)
   |(refine aN h rfl ?_)
   |(refine aA h (by rfl) λw h=>?_)
   |(refine aD h λn w h=>?_)
   |(refine aV h λw h=>?_)
   |(refine be h rfl λw h=>?_;dsimp only[dE,over]at h)
   |(refine aq (fL _ _ hv.bn hs.bn) h λr w h=>?_;obtain⟨hr,h⟩:=h.aP;(try dsimp only at hr h);try rw[hr]))
  have hq1:=hv.add hs;have hdef:yn v.m.q o s=if(mj v.m.q s).jl=false∧(mj v.m.q s).uY=false then(if gP s>0 then lu (mj v.m.q s) s else mj v.m.q s)
    else if(mj v.m.q s).jl=false∧rz s=true then gE (mj v.m.q s)else C_ (gw (mj v.m.q s) o) o s:=rfl
  rw[hdef];have h:=(h.eP (b:=b) (L':=(ad.db nw ((wQ v (mj v.m.q s))))) (by simp[mj]));have e1:v.m.q.jl=(mj v.m.q s).jl:=rfl;have e2:v.m.q.uY=(mj v.m.q s).uY:=rfl;rw[e1];generalize mj v.m.q s=u at*
  have h:au _ _ _ _ (ah n1 (Ks.mk aW s)^ah b (ad.db nw ((wQ v u)))):=h.aK;have hn:=hq1.n;have htick:∀(w:World),au w0 S R w (ah n1 (Ks.mk aW s)^ah b (ad.db nw ((wQ v u))))→∀K:WP,(∀w,au w0 S R w (ah n1 (Ks.mk aW s)^ah b (ad.db nw ((wQ v (gw u o)))))→K w)→
    ar o (az (some ⟨b,15⟩) λq11=>ld [.int .i64] ⟨q11.b,q11.o+3⟩ λ(x12:Int)=>az (some ⟨b,15⟩) λq13=>st ⟨q13.b,q13.o+3⟩ [aJ (i64.wrap (x12+(1:Int)))]<|K) K w:=by
   intro w h K hK;refine ae (λc=>?_) λc=>?_
   ·refine ac (aj h rfl (ac ?_));dsimp only;rw[fu (n:=u.n+1)];refine be h rfl λw h=>hK w ?_;have h:=(h.eP (b:=b) (L':=(ad.db nw ((wQ v (gw u o))))) (by rw[c];simp[gw,dE,over]));exact h.aK
   ·have e:gw u o=u:=(by unfold gw;rw[c];rfl);exact hK w (by rw[e];exact h)
  refine ae (λc=>?_) λc=>?_
  ·have c:u.jl=true:=c;rw[aw (by rw[c];simp),aw (by rw[c];simp)];have hnu:=hq1.nu c;refine aS h (λ_=>ah n1 (Ks.mk aW s)^ah b (ad.db nw ((wQ v (gw u o))))) (λ_=>True) (λ_ w _ h=>?_) (htick _ h _ λw h=>⟨trivial,h⟩);have hu2:(gw u o).jl=true:=(by cases o<;>exact c);unfold C_;rw[aF hu2];refine ac (aj h rfl (ae (λc2=>?_) λc2=>?_))
   ·have c2:(gw u o).n≥48:=bZ c2;have hq:o=true∧(gw u o).n=48:=by
     cases o with
     |false=>exfalso;have c2:u.n≥48:=c2;omega
     |true=>exact⟨rfl,by have c2:u.n+1≥48:=c2;show u.n+1=48;omega⟩
    rw[aF hq];generalize gw u o=x at*
    have e9:({gE x with n:=0}:Pl)=⟨false,false,0,0,x.bn,x.t0,x.d0,x.l0⟩:=rfl;rw[e9];repeat' (first
     |(refine aM h λw h=>?_)
     |(refine ac ?_)
     |(refine ay h rfl ?_)
     |(refine aj h rfl ?_)
     |(refine aO h ?_)
     |(refine aN h rfl ?_)
     |(refine aA h (by rfl) λw h=>?_)
     |(refine aD h λn w h=>?_)
     |(refine aV h λw h=>?_)
     |(refine be h rfl λw h=>?_;dsimp only[dE,over]at h))
    have h:=(h.eP (b:=b) (L':=(ad.db nw ((wQ v {x with jl:=false,n:=0})))) (by simp));refine aq (xG b nw (wQ v {x with jl:=false,n:=0})) h λ_ w h=>?_;exact h.aK
   ·have c2:¬(gw u o).n≥48:=cd c2;rw[aw (by omega)];exact h.aK
  have c:u.jl=false:=c;refine ac (aj h rfl (ae (λc2=>?_) λc2=>?_))
  ·have c2:u.uY=false:=gJ;rw[aF ⟨c,c2⟩];refine aj h rfl (ae (λc3=>?_) λc3=>?_)
   ·rw[aF (bZ c3)];refine ay (x:=s) h rfl ?_;refine aq (Av b nw (wQ v u) s) h λ_ w h=>?_;exact h.aK
   ·rw[aw (cd c3)];exact h.aK
  have c2:u.uY=true:=gJ;rw[aw (by rw[c2];simp)];have hlv:gE u={u with uY:=false,bw:=0}:=by unfold gE;rw[←c]
  refine aj h rfl (ae (λc3=>?_) λc3=>?_)
  ·rw[aF ⟨c,c3⟩,hlv];refine aq (xG b nw (wQ v u)) h λ_ w h=>?_;exact h.aK
  rw[aw (by rw[show rz s=false from c3];simp)];refine aS h (λ_=>ah n1 (Ks.mk aW s)^ah b (ad.db nw ((wQ v (gw u o))))) (λ_=>True) (λ_ w _ h=>?_) (htick _ h _ λw h=>⟨trivial,h⟩);have hu2:(gw u o).jl=false:=by cases o<;>exact c
  have tk:=Li.Jb hq1 o;unfold C_;rw[aw (by rw[hu2];simp)];have hlv:gE (gw u o)={gw u o with uY:=false,bw:=0}:=by unfold gE;rw[←hu2]
  generalize gw u o=x at*
  refine ac (aj h rfl (ae (λc4=>?_) λc4=>?_))
  ·rw[aF (bZ c4),hlv];refine aq (xG b nw (wQ v x)) h λ_ w h=>?_;exact h.aK
  have c4:¬x.n>16:=cd c4;rw[aw c4];refine aS h (λ_=>ah n1 (Ks.mk aW s)^ah b (ad.db nw ((wQ v x)))) (λy:Bool=>y=decide (x.n≥4∧gP s>0)) (λ(y:Bool) w hy h=>?_) ?_
  ·rw[hy];refine ae (λc5=>?_) λc5=>?_
   ·rw[aF (bZ c5)];refine ay (x:=s) h rfl ?_;refine aq (Kw b nw (wQ v x) (tk (λ_=>by omega) hu2) s hs) h λ_ w h=>?_;exact h.aK
   ·rw[aw (cd c5)];exact h.aK
  ·refine ac (aj h rfl (ae (λc5=>?_) λc5=>?_))
   ·have c5:x.n≥4:=bZ c5;exact aj h rfl ⟨by rw[jH];simp[c5],h⟩
   ·have c5:¬x.n≥4:=cd c5;exact⟨by simp[c5],h⟩
end yK

namespace F6
open bK bp _root_.Go.X.Target gT fQ Tn yK
abbrev wM(v:Rm)(m:Md):Rm:={v with m:=m}
theorem CO(h:100≤m.bs∧m.bs≤9000):u64.wrap (4*m.bs)=jA m:=iy
theorem PO(b)(af bX fl floor:Int)(st)(h:(bU b af bX st fl floor).1.1=true):(bU b af bX st fl floor).1.2=false:=by
 unfold bU at*
 split
 ·rfl
 ·rename_i h1;rw[aw h1]at h;split at h<;>cases h
def IY(m:Md)(s:Sm)(o:Bool):Md:=mr (tc (ru (kD (iH m s) o s)) s) s o
theorem RH(b nw n1:Nat)(v:Rm)(hv:gp v.m)(hR:Rel v)(s:Sm)(hs:mN s)(h:au w0 S R w (ah n1 (Ks.mk aW s)^ah b (ad.db nw v)^ah nw (ad.d_ v.m.w)))(k:∀w,au w0 S R w (ah n1 (Ks.mk aW s)^ah b (ad.db nw ((wM v (iH v.m s))))^ah nw (ad.d_ ((wM v (iH v.m s)).m.w)))→K w):
  join [] (λJ4=>join [.bool] (λJ6=>
 az (some ⟨b,0⟩) λq8=>
 ld [.int .i64] ⟨q8.b,q8.o+23⟩ λ(x9:Int)=>
 ar (x9==(2:Int)) (
 az (some ⟨b,0⟩) λq10=>
 ld [.bool] ⟨q10.b,q10.o+15⟩ λ(x11:Bool)=>
 J6 (!x11))<|
 J6 false) λ(y7:Bool)=>
 ar y7 (
 bQ<|
 az (some ⟨b,0⟩) λq12=>
 ld [.int .u64] ⟨n1,0⟩ λ(x13:Int)=>
 ld [.int .u64] ⟨n1,6⟩ λ(x14:Int)=>
 ld [.int .u64] ⟨n1,7⟩ λ(x15:Int)=>
 call Tryz.prog gi [.lf (.ptr (some ⟨b,0⟩))] [.lf (.int .u64)] λ(r16:Int)=>
 cw ⟨n1,7⟩ (Ks.mk [.int .u64] x15)<|
 cw ⟨n1,6⟩ (Ks.mk [.int .u64] x14)<|
 cw ⟨n1,0⟩ (Ks.mk [.int .u64] x13)<|
 call Tryz.prog oS [.lf (.int .u64 r16),.lf (.int .u64 v.m.b.dz),.lf (.int .u64 (320:Int))] [.lf (.int .u64)] λ(r17:Int)=>
 cw ⟨n1,7⟩ (Ks.mk [.int .u64] x15)<|
 cw ⟨n1,6⟩ (Ks.mk [.int .u64] x14)<|
 cw ⟨n1,0⟩ (Ks.mk [.int .u64] x13)<|
 call Tryz.prog gi [.lf (.ptr (some ⟨b,0⟩))] [.lf (.int .u64)] λ(r18:Int)=>
 cw ⟨n1,7⟩ (Ks.mk [.int .u64] x15)<|
 cw ⟨n1,6⟩ (Ks.mk [.int .u64] x14)<|
 cw ⟨n1,0⟩ (Ks.mk [.int .u64] x13)<|
 call Tryz.prog oS [.lf (.int .u64 r18),.lf (.int .u64 v.m.b.dz),.lf (.int .u64 (256:Int))] [.lf (.int .u64)] λ(r19:Int)=>
 cw ⟨n1,7⟩ (Ks.mk [.int .u64] x15)<|
 cw ⟨n1,6⟩ (Ks.mk [.int .u64] x14)<|
 cw ⟨n1,0⟩ (Ks.mk [.int .u64] x13)<|
 call Tryz.prog og [.lf (.ptr (some ⟨q12.b,q12.o+7⟩)),.lf (.int .u64 x13),.lf (.int .u64 v.m.b.dz),.lf (.int .u64 x14),.lf (.int .u64 x15),.lf (.int .u64 r17),.lf (.int .u64 r19)] [.lf .bool] λ(r20:Bool)=>
 J4 ())<|
 J4 ()) (λ_=>K) w:=by
 refine aS h (λ_=>ah n1 (Ks.mk aW s)^ah b (ad.db nw ((wM v (iH v.m s))))^ah nw (ad.d_ ((wM v (iH v.m s)).m.w))) (λ_=>True) (λ_ w _ h=>k w h) ?_;refine aS h (λ_=>ah n1 (Ks.mk aW s)^ah b (ad.db nw v)^ah nw (ad.d_ v.m.w)) (λy:Bool=>y=decide (v.m.mode=2∧v.m.q.jl=false)) (λ(y:Bool) w hy h=>?_) ?_
 ·rw[hy];refine ae (λc=>?_) λc=>?_
  ·have c:v.m.mode=2∧v.m.q.jl=false:=bZ c;have e:iH v.m s={v.m with c:=cU v.m.c (i_ s) v.m.b.dz (gP s) (kP s) (sk v.m 320) (sk v.m 256)}:=(by unfold iH;rw[aF c]);rw[e];repeat' (first
    |(refine aM h λw h=>?_)
    |(refine ac ?_)
    |(refine ay h rfl ?_)
    |(refine aj h rfl ?_)
    |(refine aO h ?_)
    |(refine aN h rfl ?_)
    |(refine aA h (by rfl) λw h=>?_)
    |(refine aD h λn w h=>?_)
    |(refine aV h λw h=>?_)
    |(refine be h rfl λw h=>?_;dsimp only[dE,over]at h)
    |(refine aq (tg b nw v) h λr w h=>?_;obtain⟨hr,h⟩:=h.aP;(try dsimp only at hr h);try rw[hr])
    |(refine aq (v_ _ _ _ hv.bw hv.b.dz (bh 320)) h λr w h=>?_;obtain⟨hr,h⟩:=h.aP;(try dsimp only at hr h);try rw[hr])
    |(refine aq (v_ _ _ _ hv.bw hv.b.dz (bh 256)) h λr w h=>?_;obtain⟨hr,h⟩:=h.aP;(try dsimp only at hr h);try rw[hr]))
   refine aq (Kp b nw v hv.c (i_ s) v.m.b.dz (gP s) (kP s) (sk v.m 320) (sk v.m 256) hs.af) h λr w h=>?_;exact⟨trivial,h.aK⟩
  ·have c:¬(v.m.mode=2∧v.m.q.jl=false):=cd c;have e:iH v.m s=v.m:=(by unfold iH;rw[aw c]);rw[e];exact⟨trivial,h⟩
 ·repeat' (first
   |(refine aM h λw h=>?_)
   |(refine ac ?_)
   |(refine ay h rfl ?_)
   |(refine aj h rfl ?_)
   |(refine aO h ?_)
   |(refine aN h rfl ?_)
   |(refine aA h (by rfl) λw h=>?_)
   |(refine aD h λn w h=>?_)
   |(refine aV h λw h=>?_)
   |(refine be h rfl λw h=>?_;dsimp only[dE,over]at h)
   |(refine ae (λc=>?_) λc=>?_))
  ·have c:v.m.mode=2:=cS;exact⟨by cases hh:v.m.q.jl<;>simp[c],h⟩
  ·have c:¬v.m.mode=2:=cS;exact⟨by simp[c],h⟩
theorem SZ(b nw n1 v s)(h:au w0 S R w (ah n1 (Ks.mk aW s)^ah b (ad.db nw v)^ah nw (ad.d_ v.m.w)))(k:∀w,au w0 S R w (ah n1 (Ks.mk aW s)^ah b (ad.db nw ((wM v (eU v.m (i_ s)))))^ah nw (ad.d_ ((wM v (eU v.m (i_ s))).m.w)))→K w):
  (az (some ⟨b,0⟩) λq46=>
 st ⟨q46.b,q46.o+23⟩ [aJ (2:Int)]<|
 bQ<|
 az (some ⟨b,0⟩) λq47=>
 ld [.int .u64] ⟨n1,0⟩ λ(x48:Int)=>
 call Tryz.prog oK [.lf (.ptr (some ⟨q47.b,q47.o+7⟩)),.lf (.int .u64 x48),.lf (.int .i64 (2:Int))] [] λ(r49:Unit)=>
 K) w:=by
 repeat' (first
  |(refine aM h λw h=>?_)
  |(refine ac ?_)
  |(refine ay h rfl ?_)
  |(refine aj h rfl ?_)
  |(refine aO h ?_)
  |(refine aN h rfl ?_)
  |(refine aA h (by rfl) λw h=>?_)
  |(refine aD h λn w h=>?_)
  |(refine aV h λw h=>?_)
  |(refine be h rfl λw h=>?_;dsimp only[dE,over]at h))
 have h:=(h.eP (b:=b) (L':=(ad.db nw ((wM v {v.m with mode:=2})))) (by simp));have h:au _ _ _ _ (ah n1 (Ks.mk aW s)^ah b (ad.db nw ((wM v {v.m with mode:=2})))^ah nw (ad.d_ ((wM v {v.m with mode:=2}).m.w))):=h.aK;refine aq (FE b nw (wM v {v.m with mode:=2}) (i_ s) 2 (by omega)) h λr w h=>?_;exact k w h.aK
theorem HH(b nw:Nat)(v:Rm)(hv:gp v.m)(hR:Rel v)(o:Bool)(s:Sm)(hs:mN s):bx (Uq (some ⟨b,0⟩) s o) (ah b (ad.db nw v)^ah nw (ad.d_ v.m.w))
  (λ_=>yj (λu:Rm=>u.m=IY v.m s o∧Rel u∧u.g=v.g) (λu=>ah b (ad.db nw u)^ah nw (ad.d_ u.m.w))):=
 bF λw0 S R h=>by
  refine aD h λn1 w h=>?_;refine ac (aj h rfl ?_);have h:au w0 S R w (ah n1 (Ks.mk aW s)^ah b (ad.db nw v)^ah nw (ad.d_ v.m.w)):=h;refine RH b nw n1 v hv hR s hs h λw h=>?_;have hdef:IY v.m s o=mr (tc (ru (kD (iH v.m s) o s)) s) s o:=rfl;rw[hdef];have hb1:(iH v.m s).b=v.m.b:=by unfold iH;split<;>rfl
  have ok1:=hv.XV hs;have hbest:v.m.b.dz=(iH v.m s).b.dz:=by rw[hb1]
  have hR1:Rel (wM v (iH v.m s)):=λhh=>by
   have:=hR (by rw[←hb1];exact hh);show v.set=decide ((iH v.m s).b.ki≠0)∧(v.set=true→v.pJ=(iH v.m s).b.ki);rw[hb1];exact this
  try dsimp only
  rw[hbest];have e0:wM v (iH v.m s)=wM v (iH v.m s):=rfl;generalize hm1:iH v.m s=m1 at*
  clear hm1 hdef e0;repeat' (first
   |(refine aM h λw h=>?_)
   |(refine ac ?_)
   |(refine ay h rfl ?_)
   |(refine aj h rfl ?_)
   |(refine aO h ?_)
   |(refine aN h rfl ?_)
   |(refine aA h (by rfl) λw h=>?_)
   |(refine aD h λn w h=>?_)
   |(refine aV h λw h=>?_)
   |(refine be h rfl λw h=>?_;dsimp only[dE,over]at h))
  refine⟨by decide,aj h rfl ?_⟩;refine aq (KG b nw (wM v m1) ok1.p o (rz s) m1.w.v0) h λr w h=>?_;have ok2:gp (kD m1 o s):=ok1.pipe;have hR2:Rel (wM v (kD m1 o s)):=hR1;have hbest:m1.b.dz=(kD m1 o s).b.dz:=rfl;rw[hbest];have h:au w0 S R w (ah n1 (Ks.mk aW s)^ah b (ad.db nw ((wM v (kD m1 o s))))^ah nw (ad.d_ ((wM v (kD m1 o s)).m.w))):=h.aK;generalize kD m1 o s=m2 at*
  clear hR1 ok1 hbest;have b3:(ru m2).b=m2.b:=by unfold ru;split<;>rfl
  have ok3:=ok2.m1;refine aS h (λ_=>ah n1 (Ks.mk aW s)^ah b (ad.db nw ((wM v (ru m2))))^ah nw (ad.d_ ((wM v (ru m2)).m.w))) (λ_=>True) (λ_ w _ h=>?_) ?_
  ·have hR3:Rel (wM v (ru m2)):=λhh=>by
    have:=hR2 (by rw[←b3];exact hh);show v.set=decide ((ru m2).b.ki≠0)∧(v.set=true→v.pJ=(ru m2).b.ki);rw[b3];exact this
   rw[←b3];generalize ru m2=m3 at*
   clear b3 ok2 hR2;have ok4:=ok3.m2 hs;have b4:(tc m3 s).b=m3.b:=by unfold tc;split<;>rfl
   refine aS h (λ_=>ah n1 (Ks.mk aW s)^ah b (ad.db nw ((wM v (tc m3 s))))^ah nw (ad.d_ ((wM v (tc m3 s)).m.w))) (λ_=>True) (λ_ w _ h=>?_) ?_
   ·have hR4:Rel (wM v (tc m3 s)):=λhh=>by
     have:=hR3 (by rw[←b4];exact hh);show v.set=decide ((tc m3 s).b.ki≠0)∧(v.set=true→v.pJ=(tc m3 s).b.ki);rw[b4];exact this
    generalize tc m3 s=m4 at*
    clear b4 ok3 hR3;repeat' (first
     |(refine aM h λw h=>?_)
     |(refine ac ?_)
     |(refine ay h rfl ?_)
     |(refine aj h rfl ?_)
     |(refine aO h ?_)
     |(refine aN h rfl ?_)
     |(refine aA h (by rfl) λw h=>?_)
     |(refine aD h λn w h=>?_)
     |(refine aV h λw h=>?_)
     |(refine be h rfl λw h=>?_;dsimp only[dE,over]at h))
    have ef:=CO (m:=m4) ok4.bs;have ef:u64.wrap ((4:Int)*(wM v m4).m.bs)=jA m4:=ef;rw[ef];refine aq (HK b nw (wM v m4) ok4.b hR4 (i_ s) (OI s) (kP s) (jA m4) o hs.af hs.bX) h λr w h=>?_;obtain⟨u,⟨hr,hu,hRu,hg⟩,h⟩:=h.vQ;have hx:=PO m4.b (i_ s) (OI s) (kP s) (jA m4) o;have hu:u.m={m4 with b:=(A7 m4 s o).2}:=hu;have hr:r=(A7 m4 s o).1:=hr;have hx:(A7 m4 s o).1.1=true→(A7 m4 s o).1.2=false:=hx;have hdef:mr m4 s o=iJ u.m r (i_ s):=(by rw[hu,hr];rfl);rw[hdef];rw[←hr]at hx;have hw:u.m.w=m4.w:=(by rw[hu]);have h:au w0 S R w (ah b (ad.db nw u)^ah n1 (Ks.mk aW s)^ah nw (ad.d_ m4.w)):=h.aK;rw[←hw]at h;have h:au w0 S R w (ah n1 (Ks.mk aW s)^ah b (ad.db nw u)^ah nw (ad.d_ u.m.w)):=h.aK;clear hu hr hdef hR4 hw;rw[←hg];clear hg;refine aS h (λ_=>ah n1 (Ks.mk aW s)^ah b (ad.db nw ((if r.1=true then wM u {u.m with gM:=if u.m.cO>u.m.gM then u.m.cO else u.m.gM,mode:=3}else u)))^ah nw (ad.d_ ((if r.1=true then wM u {u.m with gM:=if u.m.cO>u.m.gM then u.m.cO else u.m.gM,mode:=3}else u).m.w))) (λ_=>True) (λ_ w _ h=>?_) ?_
    ·unfold iJ;by_cases hr1:r.1=true
     ·have hx:=hx hr1;rw[hx];refine ae (λc=>(by cases c)) λ_=>?_;rw[aF hr1];rw[aF hr1]at h;have h:au w0 S R w (ah n1 (Ks.mk aW s)^ah b (ad.db nw ((wM u {u.m with gM:=if u.m.cO>u.m.gM then u.m.cO else u.m.gM,mode:=3})))^ah nw (ad.d_ ((wM u {u.m with gM:=if u.m.cO>u.m.gM then u.m.cO else u.m.gM,mode:=3}).m.w))):=h;exact(h.r_ (wM u {u.m with gM:=if u.m.cO>u.m.gM then u.m.cO else u.m.gM,mode:=3}) ⟨rfl,hRu,rfl⟩).bq
     ·rw[aw hr1];rw[aw hr1]at h;have h:au w0 S R w (ah n1 (Ks.mk aW s)^ah b (ad.db nw u)^ah nw (ad.d_ u.m.w)):=h;refine ae (λc=>?_) λc=>?_
      ·have c:r.2=true:=c;rw[aF c];repeat' (first
        |(refine aM h λw h=>?_)
        |(refine ac ?_)
        |(refine ay h rfl ?_)
        |(refine aj h rfl ?_)
        |(refine aO h ?_)
        |(refine aN h rfl ?_)
        |(refine aA h (by rfl) λw h=>?_)
        |(refine aD h λn w h=>?_)
        |(refine aV h λw h=>?_)
        |(refine be h rfl λw h=>?_;dsimp only[dE,over]at h))
       have h:=(h.eP (b:=b) (L':=(ad.db nw ((wM u {gr u.m with mode:=0})))) (by simp));have h:au w0 S R _ (ah n1 (Ks.mk aW s)^ah b (ad.db nw ((wM u {gr u.m with mode:=0})))^ah nw (ad.d_ ((wM u {gr u.m with mode:=0}).m.w))):=h.aK;have hR5:Rel (wM u {gr u.m with mode:=0}):=hRu;refine ae (λc=>?_) λc=>?_
       ·have c:u.m.p.full=true:=c;rw[aF c];refine SZ b nw n1 (wM u {gr u.m with mode:=0}) s h λw h=>?_;exact(h.r_ (wM u (eU {gr u.m with mode:=0} (i_ s))) ⟨rfl,hRu,rfl⟩).bq
       ·have c:u.m.p.full=false:=c;rw[aw (by rw[c];simp)];exact(h.r_ (wM u {gr u.m with mode:=0}) ⟨rfl,hRu,rfl⟩).bq
      ·have c:r.2=false:=c;rw[aw (by rw[c];simp)];exact(h.r_ u ⟨rfl,hRu,rfl⟩).bq
    ·refine ae (λc=>?_) λc=>?_
     ·have c:r.1=true:=c;rw[aF c];repeat' (first
       |(refine aM h λw h=>?_)
       |(refine ac ?_)
       |(refine ay h rfl ?_)
       |(refine aj h rfl ?_)
       |(refine aO h ?_)
       |(refine aN h rfl ?_)
       |(refine aA h (by rfl) λw h=>?_)
       |(refine aD h λn w h=>?_)
       |(refine aV h λw h=>?_)
       |(refine be h rfl λw h=>?_;dsimp only[dE,over]at h))
      have h:=(h.eP (b:=b) (L':=(ad.db nw ((wM u {u.m with gM:=if u.m.cO>u.m.gM then u.m.cO else u.m.gM,mode:=3})))) (by simp));exact⟨trivial,h.aK⟩
     ·have c:r.1=false:=c;rw[aw (by rw[c];simp)];exact⟨trivial,h.aK⟩
   ·refine aS h (λ_=>ah n1 (Ks.mk aW s)^ah b (ad.db nw ((wM v m3)))^ah nw (ad.d_ ((wM v m3).m.w))) (λy:Bool=>y=decide (m3.mode=1∧m3.b.dz>0∧kP s≤sk m3 256)) (λ(y:Bool) w hy h=>?_) ?_
    ·rw[hy];refine ae (λc=>?_) λc=>?_
     ·have e:tc m3 s=eU m3 (i_ s):=(by unfold tc;rw[aF (bZ c)]);rw[e];exact SZ b nw n1 (wM v m3) s h λw h=>⟨trivial,h.aK⟩
     ·have e:tc m3 s=m3:=(by unfold tc;rw[aw (cd c)]);rw[e];exact⟨trivial,h⟩
    ·refine aM h λw h=>ac (aj h rfl (ae (λc=>?_) λc=>?_))
     ·have c1:m3.mode=1:=cS;refine ae (λc=>?_) λc=>?_
      ·have c2:m3.b.dz>0:=bZ c;repeat' (first
        |(refine aM h λw h=>?_)
        |(refine ac ?_)
        |(refine ay h rfl ?_)
        |(refine aj h rfl ?_)
        |(refine aO h ?_)
        |(refine aN h rfl ?_)
        |(refine aA h (by rfl) λw h=>?_)
        |(refine aD h λn w h=>?_)
        |(refine aV h λw h=>?_)
        |(refine be h rfl λw h=>?_;dsimp only[dE,over]at h)
        |(refine aq (tg b nw (wM v m3)) h λr w h=>?_;obtain⟨hr,h⟩:=h.aP;(try dsimp only at hr h);try rw[hr])
        |(refine aq (v_ _ _ _ ok3.bw ok3.b.dz (bh 256)) h λr w h=>?_;obtain⟨hr,h⟩:=h.aP;(try dsimp only at hr h);try rw[hr]))
       exact⟨by simp[c1,c2,sk],h.aK⟩
      ·have c2:¬m3.b.dz>0:=cd c;exact⟨by simp[c2],h⟩
     ·have c1:¬m3.mode=1:=cS;exact⟨by simp[c1],h⟩
  ·refine aS h (λ_=>ah n1 (Ks.mk aW s)^ah b (ad.db nw ((wM v m2)))^ah nw (ad.d_ ((wM v m2).m.w))) (λy:Bool=>y=decide (m2.mode=0∧m2.p.full=true)) (λ(y:Bool) w hy h=>?_) ?_
   ·rw[hy];refine ae (λc=>?_) λc=>?_
    ·have e:ru m2={m2 with mode:=1}:=(by unfold ru;rw[aF (bZ c)]);rw[e];repeat' (first
      |(refine aM h λw h=>?_)
      |(refine ac ?_)
      |(refine ay h rfl ?_)
      |(refine aj h rfl ?_)
      |(refine aO h ?_)
      |(refine aN h rfl ?_)
      |(refine aA h (by rfl) λw h=>?_)
      |(refine aD h λn w h=>?_)
      |(refine aV h λw h=>?_)
      |(refine be h rfl λw h=>?_;dsimp only[dE,over]at h))
     have h:=(h.eP (b:=b) (L':=(ad.db nw ((wM v {m2 with mode:=1})))) (by simp));exact⟨trivial,h.aK⟩
    ·have e:ru m2=m2:=(by unfold ru;rw[aw (cd c)]);rw[e];exact⟨trivial,h⟩
   ·repeat' (first
     |(refine aM h λw h=>?_)
     |(refine ac ?_)
     |(refine ay h rfl ?_)
     |(refine aj h rfl ?_)
     |(refine aO h ?_)
     |(refine aN h rfl ?_)
     |(refine aA h (by rfl) λw h=>?_)
     |(refine aD h λn w h=>?_)
     |(refine aV h λw h=>?_)
     |(refine be h rfl λw h=>?_;dsimp only[dE,over]at h)
     |(refine ae (λc=>?_) λc=>?_))
    ·have c:m2.mode=0:=cS;exact⟨by simp[c],h⟩
    ·have c:¬m2.mode=0:=cS;exact⟨by simp[c],h⟩
theorem HE(b nw v)(hv:gp v.m):bx (Ur (some ⟨b,0⟩)) (ah b (ad.db nw v)^ah nw (ad.d_ v.m.w)) (λr=>br (r=(fE v.m,jY v.m)) (ah b (ad.db nw v)^ah nw (ad.d_ v.m.w))):=
 bF λw0 S R h=>by
  have hm:=hv.mode;refine ac (aj h rfl (ae (λc=>?_) λc=>?_))
  ·have c:v.m.mode=0:=cS;exact au.aH (by simp[fE,jY,c]) h
  have c0:¬v.m.mode=0:=cS;refine ae (λc=>?_) λc=>?_
  ·have c:v.m.mode=1:=cS;exact au.aH (by simp[fE,jY,c]) h
  have c1:¬v.m.mode=1:=cS;refine ae (λc=>?_) λc=>?_
  ·have c:v.m.mode=2:=cS;refine ac (aj h rfl (ae (λc2=>?_) λc2=>?_))
   ·have c2:v.m.q.jl=true:=c2;exact au.aH (by simp[fE,jY,c,c2]) h
   ·have c2:v.m.q.jl=false:=c2;refine ac (aI (RG b nw v) h λw h=>?_);exact au.aH (by simp[fE,jY,c,c2]) h.aK
  ·have c2:¬v.m.mode=2:=cS;have c3:v.m.mode=3:=(by omega);exact au.aH (by simp[fE,jY,c3]) h
def rSt(v:Rm):fQ.St:=(v.m.mode,v.m.c.ph,v.m.aY,v.m.cO,zC v.m,v.m.b.dz,v.g,v.m.r.n,v.m.p.full,v.m.q.jl)
theorem HQ(b nw v):bx (Uu (some ⟨b,0⟩)) (ah b (ad.db nw v)^ah nw (ad.d_ v.m.w)) (λr=>br (r=rSt v) (ah b (ad.db nw v)^ah nw (ad.d_ v.m.w))):=
 bF λw0 S R h=>by
  refine aD h λn1 w h=>?_;repeat' (first
   |(refine aM h λw h=>?_)
   |(refine ac ?_)
   |(refine ay h rfl ?_)
   |(refine aj h rfl ?_)
   |(refine aO h ?_)
   |(refine aN h rfl ?_)
   |(refine aA h (by rfl) λw h=>?_)
   |(refine aD h λn w h=>?_)
   |(refine aV h λw h=>?_)
   |(refine be h rfl λw h=>?_;dsimp only[dE,over]at h)
   |(refine aq (tg b nw v) h λr w h=>?_;obtain⟨hr,h⟩:=h.aP;(try dsimp only at hr h);try rw[hr]))
  exact au.aH rfl h.aK
theorem KW(b nw v)(hv:gp v.m)(s)(hs:mN s)(tso:Int)(ht:U tso):bx (Ut (some ⟨b,0⟩) s tso (jY v.m)) (ah b (ad.db nw v)^ah nw (ad.d_ v.m.w)) (λ_=>ah b (ad.db nw ((wM v (eK v.m s tso))))^ah nw (ad.d_ ((wM v (eK v.m s tso)).m.w))):=
 bF λw0 S R h=>by
  refine aD h λn1 w h=>?_;repeat' (first
   |(refine aM h λw h=>?_)
   |(refine ac ?_)
   |(refine ay h rfl ?_)
   |(refine aj h rfl ?_)
   |(refine aO h ?_)
   |(refine aN h rfl ?_)
   |(refine aA h (by rfl) λw h=>?_)
   |(refine aD h λn w h=>?_)
   |(refine aV h λw h=>?_)
   |(refine be h rfl λw h=>?_;dsimp only[dE,over]at h)
   |(refine aq (kd _ _ hv.cO hs.bn) h λr w h=>?_;obtain⟨hr,h⟩:=h.aP;(try dsimp only at hr h);try rw[hr]))
  have h:=(h.eP (b:=b) (L':=(ad.db nw ((wM v (ym v.m s))))) (by simp));have h:au w0 S R _ (ah n1 (Ks.mk aW s)^ah b (ad.db nw ((wM v (ym v.m s))))^ah nw (ad.d_ ((wM v (ym v.m s)).m.w))):=h.aK;have hdef:eK v.m s tso=Ke (D5 (tM (ym v.m s) s tso)):=rfl;rw[hdef];have o1:=hv.w1 hs;have e1:jY v.m=jY (ym v.m s):=rfl;rw[e1]
  try dsimp only
  have e3:v.m.b.dz=(ym v.m s).b.dz:=rfl;have e4:v.m.bs=(ym v.m s).bs:=rfl;rw[e3,e4];clear e1 e3 e4;generalize ym v.m s=m1 at*
  repeat' (first
   |(refine aM h λw h=>?_)
   |(refine ac ?_)
   |(refine ay h rfl ?_)
   |(refine aj h rfl ?_)
   |(refine aO h ?_)
   |(refine aN h rfl ?_)
   |(refine aA h (by rfl) λw h=>?_)
   |(refine aD h λn w h=>?_)
   |(refine aV h λw h=>?_)
   |(refine be h rfl λw h=>?_;dsimp only[dE,over]at h)
   |(refine aq (tg b nw (wM v m1)) h λr w h=>?_;obtain⟨hr,h⟩:=h.aP;(try dsimp only at hr h);try rw[hr]))
  refine aI (OH _ _ _ _ _ o1.bw o1.b.dz (Gd m1) ht o1.Re) h λw h=>?_;have h:au w0 S R _ (ah n1 (Ks.mk aW s)^ah b (ad.db nw ((wM v m1)))^ah nw (ad.d_ ((wM v m1).m.w))):=h.aK;have etar:Br (zC m1) m1.b.dz (jY m1) tso m1.bs=oA m1 tso:=rfl;have o2:=o1.w2 hs ht;refine aS h (λ_=>ah n1 (Ks.mk aW s)^ah b (ad.db nw ((wM v (tM m1 s tso))))^ah nw (ad.d_ ((wM v (tM m1 s tso)).m.w))) (λ_=>True) (λ_ w _ h=>?_) ?_
  ·generalize tM m1 s tso=m2 at*
   have ef:u64.wrap (4*m2.bs)=jA m2:=CO o2.bs;repeat' (first
    |(refine aM h λw h=>?_)
    |(refine ac ?_)
    |(refine ay h rfl ?_)
    |(refine aj h rfl ?_)
    |(refine aO h ?_)
    |(refine aN h rfl ?_)
    |(refine aA h (by rfl) λw h=>?_)
    |(refine aD h λn w h=>?_)
    |(refine aV h λw h=>?_)
    |(refine be h rfl λw h=>?_;dsimp only[dE,over]at h))
   have h:=(h.eP (b:=b) (L':=(ad.db nw ((wM v (D5 m2))))) (by simp[ef]));have h:au w0 S R _ (ah n1 (Ks.mk aW s)^ah b (ad.db nw ((wM v (D5 m2))))^ah nw (ad.d_ ((wM v (D5 m2)).m.w))):=h.aK;have o3:=o2.w3;have em:m2.mode=(D5 m2).mode:=rfl
   try rw[em]
   clear em;generalize D5 m2=m3 at*
   have ef3:u64.wrap (4*m3.bs)=jA m3:=CO o3.bs;unfold Ke;refine ae (λc=>?_) λc=>?_
   ·have c:m3.mode=3:=cS;rw[aF c];repeat' (first
     |(refine aM h λw h=>?_)
     |(refine ac ?_)
     |(refine ay h rfl ?_)
     |(refine aj h rfl ?_)
     |(refine aO h ?_)
     |(refine aN h rfl ?_)
     |(refine aA h (by rfl) λw h=>?_)
     |(refine aD h λn w h=>?_)
     |(refine aV h λw h=>?_)
     |(refine be h rfl λw h=>?_;dsimp only[dE,over]at h))
    have h:=(h.eP (b:=b) (L':=(ad.db nw ((wM v {m3 with cO:=jA m3})))) (by simp[ef3]));exact h.aK
   ·have c:¬m3.mode=3:=cS;rw[aw c];exact h.aK
  ·unfold tM;refine ac (aj h rfl (ae (λc=>?_) λc=>?_))
   ·have c:m1.first=true:=c;rw[aF c];repeat' (first
     |(refine aM h λw h=>?_)
     |(refine ac ?_)
     |(refine ay h rfl ?_)
     |(refine aj h rfl ?_)
     |(refine aO h ?_)
     |(refine aN h rfl ?_)
     |(refine aA h (by rfl) λw h=>?_)
     |(refine aD h λn w h=>?_)
     |(refine aV h λw h=>?_)
     |(refine be h rfl λw h=>?_;dsimp only[dE,over]at h)
     |(refine aq (fL _ _ hs.W8 hs.Ek) h λr w h=>?_;obtain⟨hr,h⟩:=h.aP;(try dsimp only at hr h);try rw[hr]))
    have h:=(h.eP (b:=b) (L':=(ad.db nw ((wM v {m1 with cO:=if bH (kP s) (fD s)>m1.cO then bH (kP s) (fD s)else m1.cO})))) (by simp));exact⟨trivial,h.aK⟩
   have c:m1.first=false:=c;rw[aw (by rw[c];simp)];have ha:=hs.Ek.1;refine aj h rfl (ae (λc2=>?_) λc2=>?_)
   ·have c2:fD s=0:=gJ;rw[aw (by omega)];exact⟨trivial,h⟩
   have c2:¬fD s=0:=gJ;rw[aF (by omega)];refine ac (aj h rfl (ae (λc3=>?_) λc3=>?_))
   ·have c3:m1.p.full=true:=c3;rw[aF c3];repeat' (first
     |(refine aM h λw h=>?_)
     |(refine ac ?_)
     |(refine ay h rfl ?_)
     |(refine aj h rfl ?_)
     |(refine aO h ?_)
     |(refine aN h rfl ?_)
     |(refine aA h (by rfl) λw h=>?_)
     |(refine aD h λn w h=>?_)
     |(refine aV h λw h=>?_)
     |(refine be h rfl λw h=>?_;dsimp only[dE,over]at h)
     |(refine aq (fL _ _ o1.cO hs.Ek) h λr w h=>?_;obtain⟨hr,h⟩:=h.aP;(try dsimp only at hr h);try rw[hr]))
    have h:=(h.eP (b:=b) (L':=(ad.db nw ((wM v {m1 with cO:=if oA m1 tso<bH m1.cO (fD s)then oA m1 tso else bH m1.cO (fD s)})))) (by simp[oA];rfl));exact⟨trivial,h.aK⟩
   have c3:m1.p.full=false:=c3;rw[aw (by rw[c3];simp)];have e10:u64.wrap (10*m1.bs)=10*m1.bs:=(by have:=o1.bs;exact iy);refine aS h (λ_=>ah n1 (Ks.mk aW s)^ah b (ad.db nw ((wM v m1)))^ah nw (ad.d_ ((wM v m1).m.w))) (λy:Bool=>y=decide (m1.cO<oA m1 tso∨gK s<10*m1.bs)) (λ(y:Bool) w hy h=>?_) ?_
   ·rw[hy];refine ae (λc4=>?_) λc4=>?_
    ·rw[aF (bZ c4)];repeat' (first
      |(refine aM h λw h=>?_)
      |(refine ac ?_)
      |(refine ay h rfl ?_)
      |(refine aj h rfl ?_)
      |(refine aO h ?_)
      |(refine aN h rfl ?_)
      |(refine aA h (by rfl) λw h=>?_)
      |(refine aD h λn w h=>?_)
      |(refine aV h λw h=>?_)
      |(refine be h rfl λw h=>?_;dsimp only[dE,over]at h)
      |(refine aq (fL _ _ o1.cO hs.Ek) h λr w h=>?_;obtain⟨hr,h⟩:=h.aP;(try dsimp only at hr h);try rw[hr]))
     have h:=(h.eP (b:=b) (L':=(ad.db nw ((wM v {m1 with cO:=bH m1.cO (fD s)})))) (by simp));exact⟨trivial,h.aK⟩
    ·rw[aw (cd c4)];exact⟨trivial,h⟩
   ·refine aM h λw h=>ac (aj h rfl (ae (λc4=>?_) λc4=>?_))
    ·have c4:m1.cO<oA m1 tso:=bZ c4;exact⟨by simp[c4],h⟩
    ·have c4:¬m1.cO<oA m1 tso:=cd c4;refine aj h rfl (ac (aj h rfl ?_));dsimp only;rw[e10];exact⟨by simp[c4],h⟩
theorem Tl{m:Md}(h:m.mode=3)(s:Sm)(tso:Int):eK m s tso={m with cO:=jA m}:=by
 have k2:∀m:Md,∃x,tM m s tso={m with cO:=x}:=λm=>by unfold tM;(repeat' split)<;>exact⟨_,rfl⟩
 obtain⟨x,hx⟩:=k2 (ym m s);unfold eK;rw[hx];unfold Ke;rw[aF (by show m.mode=3;exact h)]
 rfl
theorem OC(b nw v)(hv:gp v.m)(o s)(hs:mN s):bx (Us (some ⟨b,0⟩) s o) (ah b (ad.db nw v)^ah nw (ad.d_ v.m.w))
  (λ_=>yj (λx:Int=>U x∧(v.m.mode≠3→x=(bt v.m s o).cO)) (λx=>ah b (ad.db nw ((wM v {bt v.m s o with cO:=x})))^ah nw (ad.d_ ((wM v {bt v.m s o with cO:=x}).m.w)))):=
 bF λw0 S R h=>by
  refine aD h λn1 w h=>?_;have h:au w0 S R w (ah n1 (Ks.mk aW s)^ah b (ad.db nw v)^ah nw (ad.d_ v.m.w)):=h;refine aS h (λ_=>ah n1 (Ks.mk aW s)^ah b (ad.db nw v)^ah nw (ad.d_ v.m.w)) (λy:Bool=>y=decide (gP s>0∧v.m.ml=false)) (λ(y:Bool) w hy h=>?_) ?_
  ·rw[hy];unfold bt;refine ae (λc=>?_) λc=>?_
   ·rw[aF (bZ c)];repeat' (first
     |(refine aM h λw h=>?_)
     |(refine ac ?_)
     |(refine ay h rfl ?_)
     |(refine aj h rfl ?_)
     |(refine aO h ?_)
     |(refine aN h rfl ?_)
     |(refine aA h (by rfl) λw h=>?_)
     |(refine aD h λn w h=>?_)
     |(refine aV h λw h=>?_)
     |(refine be h rfl λw h=>?_;dsimp only[dE,over]at h)
     |(refine aq (fL _ _ hs.del hs.W8) h λr w h=>?_;obtain⟨hr,h⟩:=h.aP;(try dsimp only at hr h);try rw[hr]))
    have h:=(h.eP (b:=b) (L':=(ad.db nw ((wM v {v.m with ml:=true,first:=true,ki:=bH (gK s) (kP s),gM:=if v.m.cO>v.m.gM then v.m.cO else v.m.gM})))) (by simp));exact(h.r_ v.m.cO ⟨hv.cO,λ_=>rfl⟩).bq
   rw[aw (cd c)];refine ac (aj h rfl (ae (λc2=>?_) λc2=>?_))
   ·have c2:v.m.ml=false:=gJ;rw[aw (by rw[c2];simp)];exact(h.r_ v.m.cO ⟨hv.cO,λ_=>rfl⟩).bq
   have c2:v.m.ml=true:=gJ;rw[aF c2];refine aS h (λ_=>ah n1 (Ks.mk aW s)^ah b (ad.db nw ((wM v {v.m with first:=v.m.first&&!o})))^ah nw (ad.d_ ((wM v {v.m with first:=v.m.first&&!o}).m.w))) (λ_=>True) (λ_ w _ h=>?_) ?_
   ·repeat' (first
     |(refine aM h λw h=>?_)
     |(refine ac ?_)
     |(refine ay h rfl ?_)
     |(refine aj h rfl ?_)
     |(refine aO h ?_)
     |(refine aN h rfl ?_)
     |(refine aA h (by rfl) λw h=>?_)
     |(refine aD h λn w h=>?_)
     |(refine aV h λw h=>?_)
     |(refine be h rfl λw h=>?_;dsimp only[dE,over]at h))
    refine ae (λc3=>?_) λc3=>?_
    ·have c3:gK s≥v.m.ki:=bZ c3;rw[aw (show ¬gK s<v.m.ki by omega)];repeat' (first
      |(refine aM h λw h=>?_)
      |(refine ac ?_)
      |(refine ay h rfl ?_)
      |(refine aj h rfl ?_)
      |(refine aO h ?_)
      |(refine aN h rfl ?_)
      |(refine aA h (by rfl) λw h=>?_)
      |(refine aD h λn w h=>?_)
      |(refine aV h λw h=>?_)
      |(refine be h rfl λw h=>?_;dsimp only[dE,over]at h))
     refine ae (λc4=>?_) λc4=>?_
     ·have c4:v.m.mode≠3:=(by simpa using c4);repeat' (first
       |(refine aM h λw h=>?_)
       |(refine ac ?_)
       |(refine ay h rfl ?_)
       |(refine aj h rfl ?_)
       |(refine aO h ?_)
       |(refine aN h rfl ?_)
       |(refine aA h (by rfl) λw h=>?_)
       |(refine aD h λn w h=>?_)
       |(refine aV h λw h=>?_)
       |(refine be h rfl λw h=>?_;dsimp only[dE,over]at h))
      have h:=(h.eP (b:=b) (L':=(ad.db nw ((wM v (kz {v.m with first:=v.m.first&&!o}))))) (by simp[kz,c4]));have ew:(kz {v.m with first:=v.m.first&&!o}).w=v.m.w:=(by unfold kz;split<;>rfl);rw[←ew]at h;have hU:U (kz {v.m with first:=v.m.first&&!o}).cO:=by
       simp only[kz,aF c4];exact Bb hv.gM hv.cO
      generalize kz {v.m with first:=v.m.first&&!o}=mo at*
      exact(h.r_ mo.cO ⟨hU,λ_=>rfl⟩).bq
     ·have c4:v.m.mode=3:=(by simpa using c4);have h:=(h.eP (b:=b) (L':=(ad.db nw ((wM v {kz {v.m with first:=v.m.first&&!o}with cO:=if v.m.gM>v.m.cO then v.m.gM else v.m.cO})))) (by simp[kz,c4]));have ew:(kz {v.m with first:=v.m.first&&!o}).w=v.m.w:=(by unfold kz;split<;>rfl);rw[←ew]at h;generalize kz {v.m with first:=v.m.first&&!o}=mo at*
      exact(h.r_ (if v.m.gM>v.m.cO then v.m.gM else v.m.cO) ⟨Bb hv.gM hv.cO,λhh=>absurd c4 hh⟩).bq
    ·have c3:¬gK s≥v.m.ki:=cd c3;rw[aF (show gK s<v.m.ki by omega)];exact(h.r_ v.m.cO ⟨hv.cO,λ_=>rfl⟩).bq
   ·refine ae (λc3=>?_) λc3=>?_
    ·repeat' (first
      |(refine aM h λw h=>?_)
      |(refine ac ?_)
      |(refine ay h rfl ?_)
      |(refine aj h rfl ?_)
      |(refine aO h ?_)
      |(refine aN h rfl ?_)
      |(refine aA h (by rfl) λw h=>?_)
      |(refine aD h λn w h=>?_)
      |(refine aV h λw h=>?_)
      |(refine be h rfl λw h=>?_;dsimp only[dE,over]at h))
     have h:=(h.eP (b:=b) (L':=(ad.db nw ((wM v {v.m with first:=v.m.first&&!o})))) (by rw[c3];simp));exact⟨trivial,h.aK⟩
    ·have h:=(h.eP (b:=b) (L':=(ad.db nw ((wM v {v.m with first:=v.m.first&&!o})))) (by rw[c3];simp));exact⟨trivial,h.aK⟩
  ·refine aj h rfl (ae (λc=>?_) λc=>?_)
   ·have c:gP s>0:=bZ c;exact ac (aj h rfl ⟨by simp[c],h⟩)
   ·have c:¬gP s>0:=cd c;exact⟨by simp[c],h⟩
theorem AD(n:Int):bx (TU n) bg (λr=>ex λp:Nat×Nat=>br (r=some ⟨p.1,0⟩) (ah p.1 ((λb nw=>(ad.db nw ((Rm.mk (mJ n) false 0 739)))) p.1 p.2)^ah p.2 (ad.d_ ((mJ n).w)))):=
 bF λw0 S R h=>by
  refine aq (O9 10) h λr w h=>?_;obtain⟨nw,h⟩:=h.lS;obtain⟨hr,h⟩:=h.aP;rw[hr];have em:(if(if(9000:Int)<n then(9000:Int)else n)>(100:Int)then(if(9000:Int)<n then(9000:Int)else n)else(100:Int))=nk n:=by unfold nk;(repeat' split)<;>omega
  rw[em];have hm:=IP n;have ew:u64.wrap ((10:Int)*nk n)=10*nk n:=iy;have ew2:u64.wrap (10*nk n*1000)=10*nk n*1000:=iy;rw[ew];refine aD h λb w h=>?_;refine ac (be h rfl λw h=>?_);dsimp only[dE,over]at h;refine ac (aj h rfl ?_);dsimp only;rw[ew2];refine aI (Cc _ _ ⟨by omega,by omega⟩ (bh 739)) h λw h=>?_;refine ac (be h rfl λw h=>?_);dsimp only[dE,over]at h;have h:=(h.eP (b:=b) (L':=(ad.db nw ((Rm.mk (mJ n) false 0 739)))) (by simp));exact au.gI (b,nw) (au.aH rfl h.aK)
theorem zP(b nw n1 n2 v)(hv:gp v.m)(s)(h:au w0 S R w (ah n1 (Ks.mk aW s)^ah n2 [aJ (0:Int),aJ (0:Int),aC (0:Int),aC (0:Int),aC (0:Int),aC (0:Int),aC (0:Int),aC (0:Int),a_ false,a_ false]^ah b (ad.db nw v)^ah nw (ad.d_ v.m.w)))(k:∀w,au w0 S R w (ah n1 (Ks.mk aW s)^ah n2 [aJ (0:Int),aJ (0:Int),aC (0:Int),aC (0:Int),aC (0:Int),aC (0:Int),aC (0:Int),aC (0:Int),a_ false,a_ false]^ah b (ad.db nw ((wM v (dO v.m))))^ah nw (ad.d_ ((wM v (dO v.m)).m.w)))→K w):
  join [] (λJ36=>
 call Tryz.prog gi [.lf (.ptr (some ⟨b,0⟩))] [.lf (.int .u64)] λ(r38:Int)=>
 ar (decide (r38>(0:Int))) (
 call Tryz.prog gi [.lf (.ptr (some ⟨b,0⟩))] [.lf (.int .u64)] λ(r39:Int)=>
 call Tryz.prog tZ [.lf (.int .u64 r39),.lf (.int .u64 (fE v.m))] [.lf (.int .u64)] λ(r40:Int)=>
 join [.bool] (λJ41=>
 az (some ⟨b,0⟩) λq43=>
 ld [.bool] ⟨q43.b,q43.o+6⟩ λ(x44:Bool)=>
 ar x44 (
 J41 true)<|
 az (some ⟨b,0⟩) λq45=>
 ld [.int .u64] ⟨q45.b,q45.o+24⟩ λ(x46:Int)=>
 J41 (decide ((if r40>(1:Int)then r40 else(1:Int))>x46))) λ(y42:Bool)=>
 ar y42 (
 az (some ⟨b,0⟩) λq47=>
 st ⟨q47.b,q47.o+24⟩ [aC (if r40>(1:Int)then r40 else(1:Int))]<|
 J36 ())<|
 J36 ())<|
 J36 ()) (λ_=>K) w:=by
 refine aS h (λ_=>ah n1 (Ks.mk aW s)^ah n2 [aJ (0:Int),aJ (0:Int),aC (0:Int),aC (0:Int),aC (0:Int),aC (0:Int),aC (0:Int),aC (0:Int),a_ false,a_ false]^ah b (ad.db nw ((wM v (dO v.m))))^ah nw (ad.d_ ((wM v (dO v.m)).m.w))) (λ_=>True) (λ_ w _ h=>k w h) ?_;unfold dO;have hb:=hv.bw;refine aI (tg b nw v) h λw h=>?_;refine ae (λc=>?_) λc=>?_
 ·have c:zC v.m>0:=bZ c;rw[aw (by omega)];refine aI (tg b nw v) h λw h=>?_;refine aq (Cc _ _ hb (Gb v.m)) h λr w h=>?_;obtain⟨hr,h⟩:=h.aP;have e:(if r>(1:Int)then r else(1:Int))=Kd v.m:=by
   have e:∀x:Int,(if x>1 then x else 1)=if 1>x then 1 else x:=λx=>by(repeat' split)<;>omega
   rw[hr];exact e _
  rw[e];have h:au _ _ _ _ (ah n1 (Ks.mk aW s)^ah n2 [aJ (0:Int),aJ (0:Int),aC (0:Int),aC (0:Int),aC (0:Int),aC (0:Int),aC (0:Int),aC (0:Int),a_ false,a_ false]^ah b (ad.db nw v)^ah nw (ad.d_ v.m.w)):=h.aK;refine aS h (λ_=>ah n1 (Ks.mk aW s)^ah n2 [aJ (0:Int),aJ (0:Int),aC (0:Int),aC (0:Int),aC (0:Int),aC (0:Int),aC (0:Int),aC (0:Int),a_ false,a_ false]^ah b (ad.db nw v)^ah nw (ad.d_ v.m.w)) (λy:Bool=>y=decide (v.m.p.full=true∨Kd v.m>v.m.aY)) (λ(y:Bool) w hy h=>?_) ?_
  ·rw[hy];refine ae (λc2=>?_) λc2=>?_
   ·rw[aF (bZ c2)];repeat' (first
     |(refine aM h λw h=>?_)
     |(refine ac ?_)
     |(refine ay h rfl ?_)
     |(refine aj h rfl ?_)
     |(refine aO h ?_)
     |(refine aN h rfl ?_)
     |(refine aA h (by rfl) λw h=>?_)
     |(refine aD h λn w h=>?_)
     |(refine aV h λw h=>?_)
     |(refine be h rfl λw h=>?_;dsimp only[dE,over]at h))
    have h:=(h.eP (b:=b) (L':=(ad.db nw ((wM v {v.m with aY:=Kd v.m})))) (by simp));exact⟨trivial,h.aK⟩
   ·rw[aw (cd c2)];exact⟨trivial,h⟩
  ·refine ac (aj h rfl (ae (λc2=>?_) λc2=>?_))
   ·have c2:v.m.p.full=true:=c2;exact⟨by simp[c2],h⟩
   ·have c2:v.m.p.full=false:=c2;exact ac (aj h rfl ⟨by simp[c2],h⟩)
 ·have c:¬zC v.m>0:=cd c;have:=hb.1;rw[aF (by omega)];exact⟨trivial,h.aK⟩
theorem Ky(b nw n1 n2 v)(hv:gp v.m)(s)(hs:mN s)(h:au w0 S R w (ah n1 (Ks.mk aW s)^ah n2 [aJ (0:Int),aJ (0:Int),aC (0:Int),aC (0:Int),aC (0:Int),aC (0:Int),aC (0:Int),aC (0:Int),a_ false,a_ false]^ah b (ad.db nw v)^ah nw (ad.d_ v.m.w)))(k:∀w,au w0 S R w (ah n1 (Ks.mk aW s)^ah n2 [aJ (0:Int),aJ (0:Int),aC (0:Int),aC (0:Int),aC (0:Int),aC (0:Int),aC (0:Int),aC (0:Int),a_ false,a_ false]^ah b (ad.db nw ((wM v (ff v.m s))))^ah nw (ad.d_ ((wM v (ff v.m s)).m.w)))→K w):
  join [] (λJ9=>
 join [.bool] (λJ11=>
 ld [.int .u64] ⟨n1,5⟩ λ(x13:Int)=>
 ar (decide (x13>(0:Int))) (
 ld [.int .u64] ⟨n1,3⟩ λ(x14:Int)=>
 J11 (decide (x14>(0:Int))))<|
 J11 false) λ(y12:Bool)=>
 ar y12 (
 bQ<|
 ld [.int .u64] ⟨n1,1⟩ λ(x15:Int)=>
 ld [.int .u64] ⟨n1,2⟩ λ(x16:Int)=>
 ld [.int .u64] ⟨n1,3⟩ λ(x17:Int)=>
 call Tryz.prog vb [.lf (.int .u64 x15),.lf (.int .u64 x16)] [.lf (.int .u64)] λ(r18:Int)=>
 cw ⟨n1,3⟩ (Ks.mk [.int .u64] x17)<|
 call Tryz.prog rJ [.lf (.int .u64 r18),.lf (.int .u64 (1000000000:Int)),.lf (.int .u64 x17)] [.lf (.int .u64)] λ(r19:Int)=>
 join [.bool] (λJ20=>
 ld [.bool] ⟨n1,8⟩ λ(x22:Bool)=>
 ar (!x22) (
 J20 true)<|
 az (some ⟨b,0⟩) λq23=>
 ld [.ptr] ⟨q23.b,q23.o+1⟩ λ(x24:bO)=>
 az x24 λq25=>
 dM (0≤(0:Int)∧(0:Int)<3)<|
 ld [.int .u64] ⟨q25.b,q25.o+4+(0:Int).toNat*1⟩ λ(x26:Int)=>
 J20 (decide (r19≥x26))) λ(y21:Bool)=>
 ar y21 (
 bQ<|
 az (some ⟨b,0⟩) λq27=>
 az (some ⟨b,0⟩) λq28=>
 ld [.ptr] ⟨q27.b,q27.o+1⟩ λ(x29:bO)=>
 ld [.int .u64] ⟨q28.b,q28.o+2⟩ λ(x30:Int)=>
 call Tryz.prog pz [.lf (.ptr x29),.lf (.int .u64 x30),.lf (.int .u64 r19)] [.lf (.int .u64)] λ(r31:Int)=>
 J9 ())<|
 J9 ())<|
 J9 ()) (λ_=>K) w:=by
 refine aS h (λ_=>ah n1 (Ks.mk aW s)^ah n2 [aJ (0:Int),aJ (0:Int),aC (0:Int),aC (0:Int),aC (0:Int),aC (0:Int),aC (0:Int),aC (0:Int),a_ false,a_ false]^ah b (ad.db nw ((wM v (ff v.m s))))^ah nw (ad.d_ ((wM v (ff v.m s)).m.w))) (λ_=>True) (λ_ w _ h=>k w h) ?_;unfold ff;have ha:=hs.Ek.1;have hti:=hs.Xh.1;refine aS h (λ_=>ah n1 (Ks.mk aW s)^ah n2 [aJ (0:Int),aJ (0:Int),aC (0:Int),aC (0:Int),aC (0:Int),aC (0:Int),aC (0:Int),aC (0:Int),a_ false,a_ false]^ah b (ad.db nw v)^ah nw (ad.d_ v.m.w)) (λy:Bool=>y=decide (¬(fD s=0∨AH s=0))) (λ(y:Bool) w hy h=>?_) ?_
 ·rw[hy];refine ae (λc=>?_) λc=>?_
  ·have c:¬(fD s=0∨AH s=0):=bZ c;rw[aw c];have hd:=nA hs.del hs.pri;have hk:=yR hd (bh 1000000000) hs.Xh;repeat' (first
    |(refine aM h λw h=>?_)
    |(refine ac ?_)
    |(refine ay h rfl ?_)
    |(refine aj h rfl ?_)
    |(refine aO h ?_)
    |(refine aN h rfl ?_)
    |(refine aA h (by rfl) λw h=>?_)
    |(refine aD h λn w h=>?_)
    |(refine aV h λw h=>?_)
    |(refine be h rfl λw h=>?_;dsimp only[dE,over]at h)
    |(refine aq (kd _ _ hs.del hs.pri) h λr w h=>?_;obtain⟨hr,h⟩:=h.aP;(try dsimp only at hr h);try rw[hr]))
   refine aq (nY _ _ _ hd (bh 1000000000) hs.Xh) h λr w h=>?_;obtain⟨hr,h⟩:=h.aP;have hr:r=mK s:=hr;rw[hr];have h:au _ _ _ _ (ah n1 (Ks.mk aW s)^ah n2 [aJ (0:Int),aJ (0:Int),aC (0:Int),aC (0:Int),aC (0:Int),aC (0:Int),aC (0:Int),aC (0:Int),a_ false,a_ false]^ah b (ad.db nw v)^ah nw (ad.d_ v.m.w)):=h.aK;have hk:U (mK s):=hk;refine aS h (λ_=>ah n1 (Ks.mk aW s)^ah n2 [aJ (0:Int),aJ (0:Int),aC (0:Int),aC (0:Int),aC (0:Int),aC (0:Int),aC (0:Int),aC (0:Int),a_ false,a_ false]^ah b (ad.db nw v)^ah nw (ad.d_ v.m.w)) (λy:Bool=>y=decide (rz s=false∨mK s≥v.m.w.v0)) (λ(y:Bool) w hy h=>?_) ?_
   ·rw[hy];refine ae (λc2=>?_) λc2=>?_
    ·rw[aF (bZ c2)];repeat' (first
      |(refine aM h λw h=>?_)
      |(refine ac ?_)
      |(refine ay h rfl ?_)
      |(refine aj h rfl ?_)
      |(refine aO h ?_)
      |(refine aN h rfl ?_)
      |(refine aA h (by rfl) λw h=>?_)
      |(refine aD h λn w h=>?_)
      |(refine aV h λw h=>?_)
      |(refine be h rfl λw h=>?_;dsimp only[dE,over]at h))
     refine aq (AG nw v.m.w hv.w v.m.r.n (mK s) hv.r.n hk) h λr w h=>?_;obtain⟨hr,h⟩:=h.aP;exact⟨trivial,h.aK⟩
    ·rw[aw (cd c2)];exact⟨trivial,h⟩
   ·refine aj h rfl (ae (λc2=>?_) λc2=>?_)
    ·have c2:rz s=false:=gJ;exact⟨by simp[c2],h⟩
    ·have c2:rz s=true:=gJ;refine ac (aj h rfl (ac ⟨by decide,aj h rfl ?_⟩));exact⟨by simp[c2],h⟩
  ·have c:¬¬(fD s=0∨AH s=0):=cd c;rw[aF (B7.1 c)];exact⟨trivial,h⟩
 ·refine aj h rfl (ae (λc=>?_) λc=>?_)
  ·have c:fD s>0:=bZ c;refine aj h rfl ⟨?_,h⟩;rw[jH,j_,j_];show AH s>0↔_;omega
  ·have c:¬fD s>0:=cd c;refine⟨?_,h⟩;have:fD s=0:=(by omega);simp[this]
theorem GI(h1:m'.mode=m.mode)(h2:m'.q=m.q)(h3:m'.c=m.c):fE m'=fE m:=by unfold fE;rw[h1,h2,h3]
theorem H5(h1:m'.mode=m.mode):jY m'=jY m:=by unfold jY;rw[h1]
theorem V0(m):(dO m).mode=m.mode∧(dO m).q=m.q∧(dO m).c=m.c∧(dO m).b=m.b:=by unfold dO;(repeat' split)<;>exact⟨rfl,rfl,rfl,rfl⟩
theorem MY(m s o):(bt m s o).mode=m.mode∧(bt m s o).q=m.q∧(bt m s o).c=m.c∧(bt m s o).b=m.b:=by unfold bt kz;(repeat' split)<;>exact⟨rfl,rfl,rfl,rfl⟩
theorem MZ(m s)(tso:Int):∃x,eK m s tso={m with cO:=x}:=by
 have k2:∀m:Md,∃x,tM m s tso={m with cO:=x}:=λm=>by unfold tM;(repeat' split)<;>exact⟨_,rfl⟩
 obtain⟨x,hx⟩:=k2 (ym m s);unfold eK;rw[hx];unfold Ke;split<;>exact⟨_,rfl⟩
theorem GN(m s):(ff m s).b=m.b:=by unfold ff;(repeat' split)<;>rfl
theorem Kz(b nw:Nat)(v:Rm)(hv:gp v.m)(hR:Rel v)(s:Sm)(hs:mN s)(tso:Int)(ht:U tso):bx (PX (some ⟨b,0⟩) s tso) (ah b (ad.db nw v)^ah nw (ad.d_ v.m.w))
  (λr=>yj (λu:Rm=>u.m=pC v.m s tso∧Rel u∧u.g=fE u.m∧r=GQ u.m) (λu=>ah b (ad.db nw u)^ah nw (ad.d_ u.m.w))):=
 bF λw0 S R h=>by
  refine aD h λn1 w h=>?_;refine aD h λn2 w h=>?_;refine aM h λw h=>?_;obtain⟨o,ho⟩:∃o,o=rB v.m.r s:=⟨_,rfl⟩;have hu:pC v.m s tso=Ng (Ra (D4 v.m s) o s) o s tso:=by rw[ho];rfl
  have hm1:D4 v.m s={v.m with r:=rU v.m.r s,q:=yn v.m.q o s}:=by rw[ho]
  have o1:=hv.u1 hs;rw[hu];rw[hm1]at o1⊢;refine ay (x:=s) h rfl (ac ?_);refine aq (OD b nw v s hs) h λr w h=>?_;obtain⟨hr,h⟩:=h.aP;rw[hr,←ho];refine aM h λw h=>?_;refine ay (x:=s) h rfl (ac ?_);refine aq (Kx b nw {v with m:={v.m with r:=rU v.m.r s}} hv.q o s hs) h λ_ w h=>?_;have hR1:Rel (wM v {v.m with r:=rU v.m.r s,q:=yn v.m.q o s}):=hR;have h:au w0 S R w (ah n1 (Ks.mk aW s)^ah n2 [aJ (0:Int),aJ (0:Int),aC (0:Int),aC (0:Int),aC (0:Int),aC (0:Int),aC (0:Int),aC (0:Int),a_ false,a_ false]^ah b (ad.db nw ((wM v {v.m with r:=rU v.m.r s,q:=yn v.m.q o s})))^ah nw (ad.d_ ((wM v {v.m with r:=rU v.m.r s,q:=yn v.m.q o s}).m.w))):=h.aK;generalize({v.m with r:=rU v.m.r s,q:=yn v.m.q o s}:Md)=m1 at h hR1 o1⊢;clear hm1 hu hr ho;refine Ky b nw n1 n2 (wM v m1) o1 s hs h λw h=>?_;have h:au w0 S R w (ah n1 (Ks.mk aW s)^ah n2 [aJ (0:Int),aJ (0:Int),aC (0:Int),aC (0:Int),aC (0:Int),aC (0:Int),aC (0:Int),aC (0:Int),a_ false,a_ false]^ah b (ad.db nw ((wM v (ff m1 s))))^ah nw (ad.d_ ((wM v (ff m1 s)).m.w))):=h;have o2:=o1.Rc hs;have hb2:=GN m1 s;have hR2:Rel (wM v (ff m1 s)):=λhh=>by
   have hh:m1.b.on=true:=(by rw[←hb2];exact hh);have:=hR1 hh;show v.set=decide ((ff m1 s).b.ki≠0)∧(v.set=true→v.pJ=(ff m1 s).b.ki);rw[hb2];exact this
  have hu2:Ra m1 o s=IY (ff m1 s) s o:=rfl;rw[hu2];generalize ff m1 s=m2 at h hR2 o2⊢;refine ay (x:=s) h rfl ?_;refine aq (HH b nw (wM v m2) o2 hR2 o s hs) h λ_ w h=>?_;obtain⟨u,⟨hu,hRu,_⟩,h⟩:=h.vQ;have hu:u.m=IY m2 s o:=hu;have o3:gp u.m:=by rw[hu];exact(o2.XV hs).pipe.m1.m2 hs |>.look hs
  rw[←hu];clear hu;refine aI (HE b nw u o3) h λw h=>?_;refine ac (be h rfl λw h=>?_);dsimp only[dE,over]at h;have h:=(h.eP (b:=b) (L':=(ad.db nw ((Rm.mk u.m u.set u.pJ (fE u.m))))) (by simp));have h:au w0 S R w (ah n1 (Ks.mk aW s)^ah n2 [aJ (0:Int),aJ (0:Int),aC (0:Int),aC (0:Int),aC (0:Int),aC (0:Int),aC (0:Int),aC (0:Int),a_ false,a_ false]^ah b (ad.db nw ((Rm.mk u.m u.set u.pJ (fE u.m))))^ah nw (ad.d_ ((Rm.mk u.m u.set u.pJ (fE u.m)).m.w))):=h.aK;refine zP b nw n1 n2 (Rm.mk u.m u.set u.pJ (fE u.m)) o3 s h λw h=>?_;have o4:=o3.RA;obtain⟨p1,p2,p3,p4⟩:=V0 u.m;have g4:=GI p1 p2 p3;have w4:=H5 p1;refine ay (x:=s) h rfl ?_;refine aq (OC b nw (Rm.mk (dO u.m) u.set u.pJ (fE u.m)) o4 o s hs) h λ_ w h=>?_;obtain⟨x,⟨hx,hx3⟩,h⟩:=h.vQ;obtain⟨q1,q2,q3,q4⟩:=MY (dO u.m) s o;have o5:=o4.recover (o:=o) hs;have o6:gp {bt (dO u.m) s o with cO:=x}:={o5 with cO:=hx};have w6:jY {bt (dO u.m) s o with cO:=x}=jY u.m:=(H5 (m:=bt (dO u.m) s o) (m':={bt (dO u.m) s o with cO:=x}) rfl).trans ((H5 q1).trans w4);refine ay (x:=s) h rfl ?_;dsimp only;rw[←w6];refine aq (KW b nw (wM (Rm.mk (dO u.m) u.set u.pJ (fE u.m)) {bt (dO u.m) s o with cO:=x}) o6 s hs tso ht) h λ_ w h=>?_;have hfin:eK {bt (dO u.m) s o with cO:=x} s tso=Ng u.m o s tso:=by
   show _=eK (bt (dO u.m) s o) s tso;by_cases hm:(dO u.m).mode=3
   ·rw[Tl (m:={bt (dO u.m) s o with cO:=x}) (q1.trans hm),Tl (q1.trans hm)]
    rfl
   ·have:x=(bt (dO u.m) s o).cO:=hx3 hm;rw[this]
  obtain⟨y,hy⟩:=MZ {bt (dO u.m) s o with cO:=x} s tso;have gf:fE u.m=fE (Ng u.m o s tso):=by rw[←hfin,hy,GI (m:=bt (dO u.m) s o) (m':={bt (dO u.m) s o with cO:=y}) rfl rfl rfl,GI q1 q2 q3,g4]
  have bf:(Ng u.m o s tso).b=u.m.b:=by
   rw[←hfin,hy];show(bt (dO u.m) s o).b=u.m.b;rw[q4,p4]
  have hRf:Rel (Rm.mk (Ng u.m o s tso) u.set u.pJ (fE u.m)):=λhh=>by
   have:=hRu (by rw[←bf];exact hh);show u.set=decide ((Ng u.m o s tso).b.ki≠0)∧(u.set=true→u.pJ=(Ng u.m o s tso).b.ki);rw[bf];exact this
  have h:au w0 S R w (ah b (ad.db nw ((Rm.mk (eK {bt (dO u.m) s o with cO:=x} s tso) u.set u.pJ (fE u.m))))^ah nw (ad.d_ ((Rm.mk (eK {bt (dO u.m) s o with cO:=x} s tso) u.set u.pJ (fE u.m)).m.w))^ah n2 [aJ (0:Int),aJ (0:Int),aC (0:Int),aC (0:Int),aC (0:Int),aC (0:Int),aC (0:Int),aC (0:Int),a_ false,a_ false]):=h.aK;rw[hfin]at h;generalize Ng u.m o s tso=mf at h gf bf hRf⊢;refine aq (HQ b nw (Rm.mk mf u.set u.pJ (fE u.m))) h λr w h=>?_;obtain⟨hr,h⟩:=h.aP;have hr:r=GQ mf:=by rw[hr];unfold rSt GQ;rw[gf]
  rw[hr];refine aA h (by rfl) λw h=>?_;refine ay (x:=GQ mf) h rfl ?_;exact(h.r_ (Rm.mk mf u.set u.pJ (fE u.m)) ⟨rfl,hRf,gf,rfl⟩).bq
end F6

end Go.X
