/- Contracts. -/
import Derived.Test.YtniflenfpbbikaaGreatDoorB5
set_option linter.all false
set_option autoImplicit true
set_option relaxedAutoImplicit true
namespace Go.X
open IntKind (u64 i64)
open Go.Proofs
namespace YI
abbrev K8:Ks:=[.int .u8]
abbrev KD:Ks:=[.int .i64,.int .i64,.int .i64,.int .u64,.int .u64,.sl,.int .i64,.int .i64,.int .i64,.int .i64,.int .u64,.int .u64,.bool,.int .i64,.int .i64]
abbrev zD:List Lf:=[aE 0,aE 0,aE 0,aB 0,aB 0,aY ⟨none,0,0⟩,aE 0,aE 0,aE 0,aE 0,aB 0,aB 0,bc false,aE 0,aE 0]
abbrev SI:=Int×Int×Int×Int×Int×Int
structure OkX(x:SI):Prop where
 a:0≤x.1∧x.1<256
 b:0≤x.2.1∧x.2.1<256
 c:0≤x.2.2.1∧x.2.2.1<256
 d:0≤x.2.2.2.1∧x.2.2.2.1<256
 e:0≤x.2.2.2.2.1∧x.2.2.2.2.1<256
 f:0≤x.2.2.2.2.2∧x.2.2.2.2.2<256
def yj(x:SI):Bool:=x.2.2.2.2.2.tmod 2==1
def dd(x:SI)(z:Sl):Ks.T KD:=(x.1.tmod 10,x.2.1.tmod 9,x.2.2.1*100,x.2.2.2.1*1000+x.2.2.2.2.1,x.2.2.2.1*100000000+x.2.2.2.2.1*1000000,z,x.2.2.1*100,15000,x.2.2.2.2.1,50,10000000000,x.2.2.2.1*10000,yj x,100000,1000)
def ds(x:SI):List (Int×Int):=if yj x=true then [(x.2.2.2.2.1*100,x.2.2.2.2.1*100+x.2.2.2.2.2*100)]else []
def FV(xs:List Int)(i:Nat):SI:=(xs.getD (6*i) 0,xs.getD (6*i+1) 0,xs.getD (6*i+2) 0,xs.getD (6*i+3) 0,xs.getD (6*i+4) 0,xs.getD (6*i+5) 0)
def nD(xs:List Int):Nat:=min 300 ((xs.length+5)/6)
def Y9(xs:List Int):Prop:=∀x∈xs,0≤x∧x<256
theorem sW{xs:List Int}(h:Y9 xs)(j):0≤xs.getD j 0∧xs.getD j 0<256:=by
 rw[nJ];cases hh:xs[j]? with
 |none=>exact⟨by show(0:Int)≤0;omega,by show(0:Int)<256;omega⟩
 |some x=>exact h x (gI hh)
theorem Wr{xs:List Int}(h:Y9 xs)(i):OkX (FV xs i):=⟨sW h _,sW h _,sW h _,sW h _,sW h _,sW h _⟩
abbrev DX:=SI×Sl
def dv(p:DX):Ks.T KD:=dd p.1 p.2
def sO(p:DX):SP:=aS p.2 KR (ds p.1)
section
variable {w0 w:World} {S0 R0:Nat→Prop}
instance{α:Type}(f:α→SP)(l:List α)[a:∀x,nl (f x)]:nl (rl f l):=by
 induction l with
 |nil=>exact inferInstanceAs (nl bg)
 |cons x l ih=>exact inferInstanceAs (nl (f x^rl f l))
instance(p:DX):nl (sO p):=by unfold sO;infer_instance
theorem tx(f x):∀l:List α,Le (rl f l^f x) (rl f (l++[x]))
 |[]=>(be _ _)
 |y::l=>(bZ _ _ _).trans (bi Le.rfl (tx f x l))
end
abbrev pl:Ks.T [.int .i64,.int .i64,.int .i64,.int .i64,.int .u64,.int .u64,.bool,.int .i64,.int .i64]:=(3000,15000,100,50,10000000000,0,false,100000,1000)
theorem AW:bu YN bg (λr=>bs (r=pl) bg):=
 bC λw S R h=>by
  repeat' (first
   |(refine aM h λw h=>?_)
   |(refine ac ?_)
   |(refine aw h rfl ?_)
   |(refine ah h rfl ?_)
   |(refine aO h ?_)
   |(refine aN h rfl ?_)
   |(refine az h (by rfl) λw h=>?_)
   |(refine aD h λn w h=>?_)
   |(refine aT h λw h=>?_)
   |(refine bh h rfl λw h=>?_;dsimp only[dE,over]at h))
  all_goals exact au.aH rfl h.gm
theorem HR:bu XG bg (λr=>bs (r=pl) bg):=
 bC λw S R h=>by
  repeat' (first
   |(refine aM h λw h=>?_)
   |(refine ac ?_)
   |(refine aw h rfl ?_)
   |(refine ah h rfl ?_)
   |(refine aO h ?_)
   |(refine aN h rfl ?_)
   |(refine az h (by rfl) λw h=>?_)
   |(refine aD h λn w h=>?_)
   |(refine aT h λw h=>?_)
   |(refine bh h rfl λw h=>?_;dsimp only[dE,over]at h))
  all_goals exact au.aH rfl h.gm
theorem zf(x)(hx:OkX x):bu (ZE x) bg (λr=>ex λz=>bs (r=dd x z) (aS z KR (ds x))):=
 bC λw0 S R h=>by
  have ha:=hx.a;have hb:=hx.b;have hc:=hx.c;have hd:=hx.d;have he:=hx.e;have hf:=hx.f;refine aD h λn1 w h=>aD h λn2 w h=>aM h λw h=>?_;refine Lx.A6 (by decide) (Lx.A6 (by decide) (Lx.A6 (by decide) (Lx.A6 (by decide) (Lx.A6 (by decide) (Lx.A6 (by decide) ?_)))));refine ah (x:=x.1) h rfl (ah (x:=x.2.1) h rfl (ah (x:=x.2.2.1) h rfl (ah (x:=x.2.2.2.1) h rfl (ah (x:=x.2.2.2.2.1) h rfl (ah (x:=x.2.2.2.2.2) h rfl ?_)))));refine aN h rfl (aN h rfl (aN h rfl (aN h rfl (aN h rfl (aN h rfl (aN h rfl (aN h rfl (aN h rfl (aN h rfl (aN h rfl (aN h rfl (aN h rfl (aN h rfl (aN h rfl ?_))))))))))))));refine ar AW (h.le ((aJ _).trans (be _ _))) λr w h=>?_;obtain⟨hr,h⟩:=h.aP;rw[hr];have h:=h.drop;have e1:i64.wrap (x.2.2.1*100)=x.2.2.1*100:=gi;have e2:i64.wrap (x.2.2.2.1*1000)=x.2.2.2.1*1000:=gi;have e3:i64.wrap (x.2.2.2.1*1000+x.2.2.2.2.1)=x.2.2.2.1*1000+x.2.2.2.2.1:=gi;have e4:u64.wrap (x.2.2.2.1*1000+x.2.2.2.2.1)=x.2.2.2.1*1000+x.2.2.2.2.1:=ja;have e5:i64.wrap (x.2.2.2.1*100000000)=x.2.2.2.1*100000000:=gi;have e6:i64.wrap (x.2.2.2.2.1*1000000)=x.2.2.2.2.1*1000000:=gi;have e7:i64.wrap (x.2.2.2.1*100000000+x.2.2.2.2.1*1000000)=x.2.2.2.1*100000000+x.2.2.2.2.1*1000000:=gi;have e8:u64.wrap (x.2.2.2.1*100000000+x.2.2.2.2.1*1000000)=x.2.2.2.1*100000000+x.2.2.2.2.1*1000000:=ja;have e9:i64.wrap (x.2.2.2.2.1*100)=x.2.2.2.2.1*100:=gi;have e10:u64.wrap (x.2.2.2.2.1*100)=x.2.2.2.2.1*100:=ja;have e11:i64.wrap (x.2.2.2.2.2*100)=x.2.2.2.2.2*100:=gi;have e12:i64.wrap (x.2.2.2.2.1*100+x.2.2.2.2.2*100)=x.2.2.2.2.1*100+x.2.2.2.2.2*100:=gi;have e13:u64.wrap (x.2.2.2.2.1*100+x.2.2.2.2.2*100)=x.2.2.2.2.1*100+x.2.2.2.2.2*100:=ja;have e14:i64.wrap (x.2.2.2.1*10000)=x.2.2.2.1*10000:=gi;have e15:u64.wrap (x.2.2.2.1*10000)=x.2.2.2.1*10000:=ja;rw[e1,e2,e3,e4,e5,e6,e7,e8,e9,e10,e11,e12,e13,e14,e15];refine aD h λn10 w h=>az h (by rfl) λw h=>?_;refine aQ h (λ_=>ex λz=>af n10 [aE (x.1.tmod 10),aE (x.2.1.tmod 9),aE (x.2.2.1*100),aB (x.2.2.2.1*1000+x.2.2.2.2.1),aB (x.2.2.2.1*100000000+x.2.2.2.2.1*1000000),aY z,aE 3000,aE 15000,aE 100,aE 50,aB 10000000000,aB 0,bc false,aE 100000,aE 1000]^af n2 zD^aS z KR (ds x)) (λ_=>True) (λ_ w _ h=>?_) ?_
  ·obtain⟨z,h⟩:=(h.le (aJ _)).lV;refine aA h n10 [aE (x.1.tmod 10),aE (x.2.1.tmod 9),aE (x.2.2.1*100),aB (x.2.2.2.1*1000+x.2.2.2.2.1),aB (x.2.2.2.1*100000000+x.2.2.2.2.1*1000000),aY z,aE (x.2.2.1*100),aE 15000,aE 100,aE 50,aB 10000000000,aB 0,bc false,aE 100000,aE 1000] rfl rfl rfl λw h=>?_;refine aA h n10 [aE (x.1.tmod 10),aE (x.2.1.tmod 9),aE (x.2.2.1*100),aB (x.2.2.2.1*1000+x.2.2.2.2.1),aB (x.2.2.2.1*100000000+x.2.2.2.2.1*1000000),aY z,aE (x.2.2.1*100),aE 15000,aE 100,aE 50,aB 10000000000,aB (x.2.2.2.1*10000),bc false,aE 100000,aE 1000] rfl rfl rfl λw h=>?_;refine aA h n10 [aE (x.1.tmod 10),aE (x.2.1.tmod 9),aE (x.2.2.1*100),aB (x.2.2.2.1*1000+x.2.2.2.2.1),aB (x.2.2.2.1*100000000+x.2.2.2.2.1*1000000),aY z,aE (x.2.2.1*100),aE 15000,aE x.2.2.2.2.1,aE 50,aB 10000000000,aB (x.2.2.2.1*10000),bc false,aE 100000,aE 1000] rfl rfl rfl λw h=>?_;refine aA h n10 [aE (x.1.tmod 10),aE (x.2.1.tmod 9),aE (x.2.2.1*100),aB (x.2.2.2.1*1000+x.2.2.2.2.1),aB (x.2.2.2.1*100000000+x.2.2.2.2.1*1000000),aY z,aE (x.2.2.1*100),aE 15000,aE x.2.2.2.2.1,aE 50,aB 10000000000,aB (x.2.2.2.1*10000),bc (yj x),aE 100000,aE 1000] rfl rfl rfl λw h=>?_;refine aw (x:=dd x z) h rfl ?_;refine az h (by rfl) λw h=>?_;refine aw (x:=dd x z) h rfl ?_;exact au.ie z (au.aH rfl h.aI)
  ·refine ae (λc=>?_) λc=>?_
   ·have hds:ds x=[(x.2.2.2.2.1*100,x.2.2.2.2.1*100+x.2.2.2.2.2*100)]:=aG c;refine aD h λn13 w h=>aA h n10 [aE (x.1.tmod 10),aE (x.2.1.tmod 9),aE (x.2.2.1*100),aB (x.2.2.2.1*1000+x.2.2.2.2.1),aB (x.2.2.2.1*100000000+x.2.2.2.2.1*1000000),aY ⟨some ⟨n13,0⟩,1,1⟩,aE 3000,aE 15000,aE 100,aE 50,aB 10000000000,aB 0,bc false,aE 100000,aE 1000] rfl rfl rfl λw h=>?_;have h:=h.co n13 KR [(x.2.2.2.2.1*100,x.2.2.2.2.1*100+x.2.2.2.2.2*100)] rfl (by simp);have h:=h.eN (s:=⟨some ⟨n13,0⟩,1,1⟩) (K:=KR) (ys:=ds x) hds.symm;exact⟨trivial,au.ie ⟨some ⟨n13,0⟩,1,1⟩ h.aI⟩
   ·have hds:ds x=[]:=ay (by intro h';rw[yj]at h';rw[h']at c;cases c);have h:=h.nil KR;have h:=h.eN (s:=⟨none,0,0⟩) (K:=KR) (ys:=ds x) hds.symm;exact⟨trivial,au.ie ⟨none,0,0⟩ h.aI⟩
end YI

namespace Zh
open YI
theorem HF(f:Nat→SI)(k:Nat):(List.range (k+1)).map f=(List.range k).map f++[f k]:=by rw[List.range_succ,me];rfl
def cell(l:List Int)(i j:Nat):Int:=if j<i then l.getD j 0 else 0
def cells(l:List Int)(i:Nat):List Lf:=[aE (cell l i 0),aE (cell l i 1),aE (cell l i 2),aE (cell l i 3),aE (cell l i 4),aE (cell l i 5)]
theorem QQ(l:List Int)(hi:i<6){x:Int}(hx:l[i]?=some x):dE (cells l i) (0+i*1) [aE x]=cells l (i+1):=by
 have e:x=l.getD i 0:=by rw[nJ,hx];rfl
 rw[e];have:i=0∨i=1∨i=2∨i=3∨i=4∨i=5:=by omega
 rcases this with h|h|h|h|h|h<;>rw[h]<;>rfl
theorem VI(l:List Int)(j):cell l l.length j=l.getD j 0:=by
 unfold cell;split
 ·rfl
 ·rw[nJ,rj (by omega)];rfl
theorem QP(l:List Int):cells l l.length=Ks.mk [.int .i64,.int .i64,.int .i64,.int .i64,.int .i64,.int .i64] (l.getD 0 0,l.getD 1 0,l.getD 2 0,l.getD 3 0,l.getD 4 0,l.getD 5 0):=by
 unfold cells;simp only[VI]
 rfl
theorem oa(xs:List Int)(k j:Nat)(hj:j<6):((xs.drop k).take (min 6 (xs.drop k).length)).getD j 0=xs.getD (k+j) 0:=by
 rw[nJ,nJ,po,ub];split
 ·rfl
 ·rw[rj (by rw[nN]at*;omega)]
theorem J1(xs:List Int)(i):∀l:List Int,l=(xs.drop (6*i)).take (min 6 (xs.drop (6*i)).length)→(l.getD 0 0,l.getD 1 0,l.getD 2 0,l.getD 3 0,l.getD 4 0,l.getD 5 0)=FV xs i:=by
 intro l hl;rw[hl,oa _ _ _ (by decide),oa _ _ _ (by decide),oa _ _ _ (by decide),oa _ _ _ (by decide),oa _ _ _ (by decide),oa _ _ _ (by decide)]
 rfl
def W6(r:Sl)(ps:List DX):SP:=aS r KD (ps.map dv)^rl sO ps
instance(r:Sl)(ps:List DX):nl (W6 r ps):=by unfold W6;infer_instance
def JF(xs:List Int)(ps:List DX):Prop:=ps.map Prod.fst=(List.range ps.length).map (FV xs)
theorem Lo{xs:List Int}(h:JF xs ps)(z):JF xs (ps++[(FV xs ps.length,z)]):=by
 unfold JF at*
 rw[me,h,gp];exact(HF _ _).symm
section
variable {w0 w:World} {S0 R0:Nat→Prop} {G:SP}
theorem V_(h:au w0 S0 R0 w F)[Rd s F K xs](hl:s.len≠0):Cv s:=Cv.qM (h.rd (s:=s)).1 hl
end
theorem GB(b)(xs:List Int)(hb:b.len≤b.cap)(hx:Y9 xs)(hl:xs.length≤1000000):
  bu (Zv b) (bg^aV b K8 xs) (λr=>ex λps:List DX=>bs (JF xs ps∧ps.length=nD xs) (W6 r ps)):=
 bC λw0 S R h=>by
  have h:=(h.drop.nil KD);have h:au w0 S R w0 (aV b K8 xs^W6 ⟨none,0,0⟩ []):=au.aI (A:=aV b K8 xs^aS ⟨none,0,0⟩ KD []^bg) h;refine fY (λ(y:Sl×Sl) (ps:List DX)=>aV b K8 xs^W6 y.2 ps) (λ(y:Sl×Sl) (ps:List DX)=>JF xs ps∧Rd y.1 (aV b K8 xs) K8 (xs.drop (6*ps.length))∧y.1.len≤y.1.cap∧ps.length≤300∧6*ps.length<xs.length+6) (λ(y:Sl×Sl) (ps:List DX)=>xs.length-6*ps.length) [] h ⟨rfl,by show Rd b _ K8 (xs.drop 0);rw[v8];infer_instance,hb,gJ _,by show 6*0<_;omega⟩ ?_;rintro K (⟨c,d⟩:Sl×Sl) ps w ⟨hu,hr,hc,h3,h6⟩ h next
  dsimp only at hr hc h⊢
  haveI:=hr
  have h:au w0 S R w (aV b K8 xs^aS d KD (ps.map dv)^rl sO ps):=h;have hcl:=(h.rd (s:=c)).2;have hdl:=((h.take (aS d KD (ps.map dv))).rd (s:=d)).2;rw[nN]at hcl;rw[fz]at hdl;refine ae (λc1=>?_) λc1=>?_
  ·have c1:((c.len:Nat):Int)>0:=bV c1;refine ae (λc2=>?_) λc2=>?_
   ·have c2:((d.len:Nat):Int)=300:=gK;exact au.ie ps (au.aH ⟨hu,by unfold nD;omega⟩ (au.aI (A:=aS d KD (ps.map dv)^rl sO ps) h))
   ·have c2:¬((d.len:Nat):Int)=300:=gK;have hN:=V_ (s:=c) h (by omega);obtain⟨m,hm⟩:∃m,m=min 6 c.len:=⟨_,rfl⟩;have em:(if(6:Int)<((c.len:Nat):Int)then(6:Int)else((c.len:Nat):Int))=((m:Nat):Int):=(by split<;>omega);rw[em];obtain⟨l,hl'⟩:∃l,l=(xs.drop (6*ps.length)).take (min 6 (xs.drop (6*ps.length)).length):=⟨_,rfl⟩;have hll:l.length=m:=(by rw[hl',fO,nN];omega);have elm:(xs.drop (6*ps.length)).take m=l:=(by rw[hl',nN];congr 1;omega);refine aD h λn3 w h=>?_;refine D8 (s:=c) h hN 0 m c.cap rfl rfl rfl rfl (gJ _) (by rw[nN];omega) (by omega) (by omega) λhs4 hr4=>?_;rw[elm,v8]at hr4;have hr4b:=DO c (aV b K8 xs) K8 (xs.drop (6*ps.length)) 0 m c.cap (gJ _) (by rw[nN];omega) (by omega);rw[elm,v8]at hr4b
    haveI:Rd (c.sub 0 m c.cap 1) (aV b K8 xs) K8 l:=hr4b
    have h:au w0 S R w (af n3 (cells l (0:Int).toNat)^aV b K8 xs^aS d KD (ps.map dv)^rl sO ps):=h;refine cS (λi:Int=>af n3 (cells l i.toNat)^aV b K8 xs^aS d KD (ps.map dv)^rl sO ps) (λi:Int=>0≤i∧i≤m) (λi:Int=>m-i.toNat) h ⟨gQ 0,by omega⟩ ?_;rintro(i:Int) w ⟨i0,i1⟩ h;refine ae (λc3=>?_) λc3=>?_
    ·have c3:i<(((c.sub 0 m c.cap 1).len:Nat):Int):=bV c3;rw[hs4]at c3;have hi:i.toNat<l.length:=(by omega);obtain⟨x,hx1⟩:∃x,l[i.toNat]?=some x:=⟨_,bK hi⟩;have hxm:x∈xs:=List.mem_of_mem_drop (Af (by rw[←hl'];exact gI hx1));have hxb:=hx x hxm;refine bS (s:=c.sub 0 m c.cap 1) h i0 hi (dP h (c.sub 0 m c.cap 1) i.toNat hx1 rfl (Lx.A6 ⟨i0,by omega⟩ ?_));rw[gi (n:=x)];have ei:(i+1).toNat=i.toNat+1:=(by omega);refine aA h n3 (cells l (i.toNat+1)) rfl ?_ (QQ l (by omega) hx1) λw h=>?_
     ·show Nat.ble (0+i.toNat*1+1) 6=true;rw[xr];omega
     ·rw[gi (n:=i+1)];refine⟨⟨⟨by show(0:Int)≤i+1;omega,by show i+1≤_;omega⟩,?_⟩,by show m-(i+1).toNat<_;omega⟩;show au w0 S R w (af n3 (cells l (i+1).toNat)^_);rw[ei];exact h
    ·have c3:¬i<(((c.sub 0 m c.cap 1).len:Nat):Int):=bY c3;rw[hs4]at c3;have ei:i.toNat=l.length:=(by omega);rw[ei,QP,J1 xs ps.length l hl']at h;refine D8 (s:=c) h hN m c.len c.cap rfl rfl rfl rfl (by omega) (by rw[nN];omega) hc (eE _) λhs9 _=>?_;have hr9:=DO c (aV b K8 xs) K8 (xs.drop (6*ps.length)) m c.len c.cap (by omega) (by rw[nN];omega) hc;refine aw (x:=FV xs ps.length) h rfl ?_;refine ar (zf (FV xs ps.length) (Wr hx _)) (h.le ((aJ _).trans (be _ _))) λr w h=>?_;obtain⟨z,h⟩:=h.lV;obtain⟨hr',h⟩:=h.aP;rw[hr'];refine aD h λn12 w h=>?_;have h:=h.co n12 KD [dd (FV xs ps.length) z] rfl (by simp);have h:au w0 S R w (aS ⟨some ⟨n12,0⟩,1,1⟩ KD [dd (FV xs ps.length) z]^aS d KD (ps.map dv)^aV b K8 xs^rl sO ps^aS z KR (ds (FV xs ps.length))):=h.aI;refine dF (s:=d) (x:=⟨some ⟨n12,0⟩,1,1⟩) h rfl (by rw[fz,mc];omega) λs13 w hs13 h=>?_;have h:au w0 S R w ((aV b K8 xs^aS s13 KD (ps.map dv++[dd (FV xs ps.length) z]))^(rl sO ps^aS z KR (ds (FV xs ps.length)))):=h.aI;have h:=h.le (bi Le.rfl (tx sO (FV xs ps.length,z) ps));have ed:ps.map dv++[dd (FV xs ps.length) z]=(ps++[(FV xs ps.length,z)]).map dv:=(by rw[me];rfl);rw[ed]at h;refine next (c.sub m c.len c.cap 1,s13) (ps++[(FV xs ps.length,z)]) w ⟨Lo hu z,?_,?_,?_,?_⟩ (h.le (bZ _ _ _)) ?_
     ·have e1:(((xs.drop (6*ps.length)).take c.len).drop m)=xs.drop (6*(ps++[(FV xs ps.length,z)]).length):=by
       rw[jZ (by rw[nN];omega),Hw,gp,mc];by_cases hh:6≤c.len
       ·congr 1;omega
       ·rw[FF (by omega),FF (by omega)]
      rw[e1]at hr9;exact hr9
     ·show c.len-m≤c.cap-m;omega
     ·rw[gp,mc];omega
     ·rw[gp,mc];omega
     ·show xs.length-6*(ps++[(FV xs ps.length,z)]).length<xs.length-6*ps.length;rw[gp,mc];omega
  ·have c1:¬((c.len:Nat):Int)>0:=bY c1;exact au.ie ps (au.aH ⟨hu,by unfold nD;omega⟩ (au.aI (A:=aS d KD (ps.map dv)^rl sO ps) h))
end Zh

namespace YJ
open YI Zh
theorem Kf{w0 w:World}{S0 R0:Nat→Prop}{F:SP}{r:Sl}{ps:List DX}(h:au w0 S0 R0 w (W6 r ps^F)):au w0 S0 R0 w (aS r KD (ps.map dv)^rl sO ps^F):=h.le (bZ _ _ _)
instance(F:SP):oF (Lw.I3 ⟨none,0,0⟩ []) F:=by
 unfold Lw.I3;exact inferInstanceAs (oF (aV ⟨none,0,0⟩ Lw.fm []^bg) F)
theorem l53:(⟨#[53,10]⟩:ByteArray)=PN.bA [53,10]:=rfl
theorem BJ:bu P7 bg (λr=>bs (r=true) bg):=
 bC λw0 S R h=>by
  refine aD h λn1 w h=>?_;have h:=h.co n1 K8 [1,2] rfl (by simp);refine bP (A:=bg) (Q:=aV ⟨some ⟨n1,0⟩,2,2⟩ K8 [1,2]) (GB ⟨some ⟨n1,0⟩,2,2⟩ [1,2] (eE _) (by intro x hx;simp at hx;omega) (by decide)) (h.le ((aJ _).trans (be _ _))) λr w h=>?_;obtain⟨ps,h⟩:=h.lV;obtain⟨⟨hu,hn⟩,h⟩:=h.aP;have h:=Kf h;have hn:ps.length=1:=hn;obtain⟨p,hp⟩:∃p,ps[0]?=some p:=⟨_,bK (by omega)⟩;have hp1:p.1=(1,2,0,0,0,0):=by
   unfold JF at hu;rw[hn]at hu;have:=c_ (λl=>l[0]?) hu;simp only[kV,hp,rq]at this;have h2:some p.1=some ((1,2,0,0,0,0):SI):=this;exact lE h2
  have hpf:(ps.map dv)[0]?=some (dv p):=by rw[kV,hp];rfl
  have hr:=(h.rd (s:=r)).2;rw[fz,hn]at hr;have hl1:(0:Int).toNat<(ps.map dv).length:=by rw[fz,hn];decide
  refine ae (λ_=>?_) λc=>absurd c (by rw[hr];decide);refine bS (s:=r) h (gQ 0) hl1 (fj h r 0 0 (dv p) hpf rfl (by decide) (x:=(dv p).1) rfl ?_);refine ae (λ_=>?_) λc=>absurd c (by unfold dv;rw[hp1];show ¬((_:Bool)=false);simp[dd]);refine bS (s:=r) h (gQ 0) hl1 (fj h r 0 1 (dv p) hpf rfl (by decide) (x:=(dv p).2.1) rfl ?_);refine ae (λ_=>?_) λc=>absurd c (by unfold dv;rw[hp1];show ¬((_:Bool)=false);simp[dd]);refine aD h λn7 w h=>?_;have h:=h.co n7 Lw.KI [5] rfl (by simp);have h:au w0 S R w (Gd.mw false^aS ⟨some ⟨n7,0⟩,1,1⟩ Lw.KI [5]):=h.br.le ((aJ _).trans (be _ _));refine bP (A:=bg) (Q:=Gd.mw false^Lw.I3 ⟨none,0,0⟩ []^aV ⟨some ⟨n7,0⟩,1,1⟩ Lw.KI [5]) (Lw.O6 false ⟨none,0,0⟩ ⟨some ⟨n7,0⟩,1,1⟩ [] [5] (λ_ h=>by cases h) (by decide) (by decide) (λ_=>⟨λ_ h=>(by cases h),by decide⟩)) (h.le ((aJ _).trans (be _ _))) λr8 w h=>?_;obtain⟨hr8,h⟩:=h.aP;have h:=h.drop;have e5:PN.txF (([]:List Lw.OT).map Lw.tn) [5]=[53,10]:=by
   show(PN.dg 5++([]++[10]):List UInt8)=_;rw[show PN.dg 5=[53]from _root_.Go.Lib.decDigits_one (i:=5) (by decide)]
   rfl
  refine ae (λ_=>?_) λc=>absurd c (by rw[hr8,e5,l53];simp);refine ar AW (h.le ((aJ _).trans (be _ _))) λr9 w h=>?_;obtain⟨hr9,h⟩:=h.aP;refine ar HR h λr10 w h=>?_;obtain⟨hr10,h⟩:=h.aP;rw[hr9,hr10];exact au.aH rfl h.gm
end YJ

namespace Xt
open bH bp ff lL lN fe xH A9 yM q_ Cs BE Ei Jv Ls LB Py PK Pz WU
def pg(v:Mc)(ps:List BG):Nat→List Ou
 |0=>[]
 |j+1=>pg v ps j++[(ri (ng v ps j) (Be ps j).1 (Be ps j).2).1.1]
theorem vU(v ps):∀j,(pg v ps j).length=j
 |0=>rfl
 |j+1=>by show(pg v ps j++[_]).length=_;rw[gp,vU v ps j];rfl
abbrev OR:=Ks.T fm×Ou
def oR(x:OR):SP:=nq x.1 x.2
instance(x:OR):nl (oR x):=by unfold oR;infer_instance
theorem Ox(f)(h:∀x,nl (f x)):∀l:List α,nl (rl f l)
 |[]=>by unfold rl;infer_instance
 |x::l=>by have:=Ox f h l;have:=h x;unfold rl;infer_instance
instance(l:List OR):nl (rl oR l):=Ox oR inferInstance l
theorem tx(f x):∀l:List α,Le (rl f l^f x) (rl f (l++[x]))
 |[]=>(be _ _)
 |y::l=>(bZ _ _ _).trans (bi Le.rfl (tx f x l))
def R4(r:Sl×Sl)(rs:List OR)(es:List Int):SP:=aS r.1 fm (rs.map Prod.fst)^aS r.2 KI es^rl oR rs
instance(r:Sl×Sl)(rs:List OR)(es:List Int):nl (R4 r rs es):=by unfold R4;infer_instance
theorem OM(c)(hm:may c=true)(hc:yo c)(s ps)(hl:ps.length≤1000)(hd:∀p∈ps,JD p.1)(hx:∀p∈ps,p.2.length≤4294967296):bu (c9 c s) (bg^jM s ps)
  (λr=>ex λrs:List OR=>bs (rs.map Prod.snd=pg (dH c) ps ps.length) (R4 r rs (eJ (dH c) ps ps.length))):=
 bC λw0 S R h=>by
  have hsl:=(h.rd (s:=s)).2;rw[fz]at hsl;refine aD h λn1 w h=>aw (b:=n1) (x:=c) h rfl (ar (BE.jD c) (h.le ((aJ _).trans (be _ _))) λr w h=>?_);obtain⟨b,h⟩:=h.lV;obtain⟨hr,h⟩:=h.aP;rw[aG hm]at hr h;rw[hr];refine ae (λc=>(by cases c)) λ_=>?_;have h:=h.nil fm;have h:=h.nil KI;have h:au w0 S R w (gW b (ng (dH c) ps (0:Int).toNat)^aS ⟨none,0,0⟩ fm (([]:List OR).map Prod.fst)^aS ⟨none,0,0⟩ KI (eJ (dH c) ps (0:Int).toNat)^rl oR []^jM s ps):=au.aI (A:=gW b (dH c)^aS ⟨none,0,0⟩ fm []^aS ⟨none,0,0⟩ KI []^bg^jM s ps) h;refine fY (λ(y:Sl×Sl×Int) (rs:List OR)=>gW b (ng (dH c) ps y.2.2.toNat)^aS y.1 fm (rs.map Prod.fst)^aS y.2.1 KI (eJ (dH c) ps y.2.2.toNat)^rl oR rs^jM s ps) (λ(y:Sl×Sl×Int) rs=>(0≤y.2.2∧y.2.2≤ps.length)∧rs.map Prod.snd=pg (dH c) ps y.2.2.toNat) (λ(y:Sl×Sl×Int) _=>((ps.length:Int)-y.2.2).toNat) [] h ⟨⟨gQ 0,by show(0:Int)≤_;omega⟩,rfl⟩ ?_;rintro K (y:Sl×Sl×Int) rs w ⟨hyr,hrl⟩ h next
  obtain⟨y1,y2,y3⟩:=y;dsimp only at hyr hrl h next⊢
  have hrs:rs.length=y3.toNat:=by have:=c_ List.length hrl;rw[fz,vU]at this;exact this
  refine ae (λc0=>?_) λc0=>?_
  ·have c0:y3<((s.len:Nat):Int):=bV c0;have hlt:y3.toNat<ps.length:=(by omega);obtain⟨p,hpi⟩:∃p,ps[y3.toNat]?=some p:=⟨_,jx hlt⟩;have hpa:Be ps y3.toNat=p:=(by unfold Be;rw[nJ,hpi];rfl);have hdm:(ps.map Prod.fst)[y3.toNat]?=some p.1:=(by rw[kV,hpi];rfl);have hdl:y3.toNat<(ps.map Prod.fst).length:=(by rw[fz];exact hlt);have hmem:=gI hpi;refine bS (s:=s) h hyr.1 hdl (dP h s y3.toNat hdm rfl ?_);refine aD h λn9 w h=>aA h n9 (Ks.mk KD p.1) rfl rfl rfl λw h=>aw (b:=n9) (x:=p.1) h rfl ?_
   haveI:=FJ hpi
   have hv:=yG hc hd y3.toNat (by omega) (by omega);have h:au w0 S R w (gW b (ng (dH c) ps y3.toNat)^(aS y1 fm (rs.map Prod.fst)^aS y2 KI (eJ (dH c) ps y3.toNat)^rl oR rs)^jM s ps):=h.aI;refine bP (A:=gW b (ng (dH c) ps y3.toNat)) (Q:=aV (dR p.1) KR p.2) (VN b _ _ hv (by omega) p.1 (hd p hmem) p.2 (hx p hmem)) h λr w h=>?_;obtain⟨hre,h⟩:=h.aP;obtain⟨ro,re⟩:=r;dsimp only at hre h⊢;rw[←hpa]at hre h;obtain⟨on,hon⟩:∃on,on=(ri (ng (dH c) ps y3.toNat) (Be ps y3.toNat).1 (Be ps y3.toNat).2).1.1:=⟨_,rfl⟩;rw[←hon]at h;have h:au w0 S R w (nq ro on^gW b (ng (dH c) ps (y3.toNat+1))^aS y1 fm (rs.map Prod.fst)^aS y2 KI (eJ (dH c) ps y3.toNat)^rl oR rs^jM s ps):=au.aI (A:=nq ro on^gW b (ri (ng (dH c) ps y3.toNat) (Be ps y3.toNat).1 (Be ps y3.toNat).2).2^aS y1 fm (rs.map Prod.fst)^aS y2 KI (eJ (dH c) ps y3.toNat)^rl oR rs^jM s ps) h;refine aD h λn12 w h=>aA h n12 (Ks.mk fm ro) rfl rfl rfl λw h=>aw (b:=n12) (x:=ro) h rfl ?_;refine aD h λn14 w h=>?_;have h:=h.co n14 fm [ro] rfl (by simp);have h:au w0 S R w (aS ⟨some ⟨n14,0⟩,1,1⟩ fm [ro]^_):=h;have h:au w0 S R w (aS y1 fm (rs.map Prod.fst)^aS ⟨some ⟨n14,0⟩,1,1⟩ fm [ro]^nq ro on^gW b (ng (dH c) ps (y3.toNat+1))^aS y2 KI (eJ (dH c) ps y3.toNat)^rl oR rs^jM s ps):=h.aI;refine dF (s:=y1) (x:=⟨some ⟨n14,0⟩,1,1⟩) h rfl (by rw[fz,hrs];show _+1≤_;omega) λs15 w _ h=>?_;refine aD h λn16 w h=>?_;have h:=h.co n16 KI [re] rfl (by simp);have h:au w0 S R w (aS ⟨some ⟨n16,0⟩,1,1⟩ KI [re]^_):=h;have h:au w0 S R w (aS y2 KI (eJ (dH c) ps y3.toNat)^aS ⟨some ⟨n16,0⟩,1,1⟩ KI [re]^aS s15 fm (rs.map Prod.fst++[ro])^nq ro on^gW b (ng (dH c) ps (y3.toNat+1))^rl oR rs^jM s ps):=h.aI;refine dF (s:=y2) (x:=⟨some ⟨n16,0⟩,1,1⟩) h rfl (by rw[sb];show _+1≤_;omega) λs17 w _ h=>?_;have hwi:i64.wrap (y3+1)=y3+1:=gi;have he:eJ (dH c) ps y3.toNat++[re]=eJ (dH c) ps (y3.toNat+1):=(by rw[hre];rfl);have h1:(y3+1).toNat=y3.toNat+1:=(by omega);rw[hwi];have ea:rs.map Prod.fst++[ro]=(rs++[((ro,on):OR)]).map Prod.fst:=(by rw[me];rfl);have eb:(rs++[((ro,on):OR)]).map Prod.snd=pg (dH c) ps (y3.toNat+1):=(by rw[me,hrl,hon];rfl);rw[he,ea]at h;have h:au w0 S R w ((gW b (ng (dH c) ps (y3.toNat+1))^aS s15 fm ((rs++[((ro,on):OR)]).map Prod.fst)^aS s17 KI (eJ (dH c) ps (y3.toNat+1))^jM s ps)^(rl oR rs^nq ro on)):=h.aI;have h:=h.le (bi Le.rfl (tx oR (ro,on) rs));refine next (s15,s17,y3+1) (rs++[(ro,on)]) w ⟨⟨by show 0≤y3+1;omega,by show y3+1≤_;omega⟩,by show _=pg (dH c) ps (y3+1).toNat;rw[h1];exact eb⟩ ?_ (by show((ps.length:Int)-(y3+1)).toNat<((ps.length:Int)-y3).toNat;omega)
   show au w0 S R w (gW b (ng (dH c) ps (y3+1).toNat)^aS s15 fm ((rs++[((ro,on):OR)]).map Prod.fst)^aS s17 KI (eJ (dH c) ps (y3+1).toNat)^rl oR (rs++[((ro,on):OR)])^jM s ps);rw[h1];exact h.aI
  ·have c0:¬y3<((s.len:Nat):Int):=bY c0;have e:y3.toNat=ps.length:=(by omega);rw[e]at h hrl;have h:au w0 S R w (aS y1 fm (rs.map Prod.fst)^aS y2 KI (eJ (dH c) ps ps.length)^rl oR rs):=h.aI;exact au.ie rs (au.aH hrl h)
theorem FP(c:Cf)(hm:may c=false)(s:Sl)(F:SP):bu (c9 c s) (bg^F)
  (λr=>bs (r.1=⟨none,0,0⟩) (aS r.2 KI [13])):=
 bC λw0 S R h=>by
  have h:au w0 S R w0 bg:=h.br;refine aD h λn1 w h=>aw (b:=n1) (x:=c) h rfl (ar (BE.jD c) (h.le ((aJ _).trans (be _ _))) λr w h=>?_);obtain⟨b,h⟩:=h.lV;obtain⟨hr,h⟩:=h.aP;rw[ay (by rw[hm];decide)]at hr h;rw[hr];refine ae (λ_=>?_) λc=>(by cases c);refine aD h λn4 w h=>?_;have h:=h.co n4 KI [13] rfl (by simp);have h:au w0 S R w (aS ⟨some ⟨n4,0⟩,1,1⟩ KI [13]^_):=h;exact au.aH rfl h.br
end Xt

namespace YK
open bH bp ff lL lN fe xH A9 yM q_ Cs BE Ei Jv Ls LB Py PK Pz WU Xt
theorem CQ(a b one C xs ys Q)(hl:xs.length≤4294967296)(hf:∀x∈xs,∀y∈ys,vq Tryz.prog one [.lf (.int .i64 x),.lf (.int .i64 y)] [.lf .bool] C (λr=>bs ((r=true)↔Q x y) C)):
  bu (ZD a b one) (C^aV a KI xs^aV b KI ys) (λr=>bs ((r=true)↔lj Q xs ys) C):=
 bC λw S R h=>by
  have ha:=(h.drop.rd (s:=a)).2;have hb:=((h.take (aV b KI ys)).rd (s:=b)).2;refine ae (λc=>?_) λc=>?_
  ·rw[ha,hb]at c;exact au.aH ⟨λh=>(by cases h),λh=>by have:=vg h;simp at c;omega⟩ h.aI
  ·rw[ha,hb]at c;have c:xs.length=ys.length:=by simp at c;omega
   refine cS (λ_=>aV a KI xs^aV b KI ys^C) (λ(i:Int)=>0≤i∧i.toNat≤xs.length∧(lj Q xs ys↔lj Q (xs.drop i.toNat) (ys.drop i.toNat))) (λ(i:Int)=>xs.length-i.toNat) h.aI ⟨gQ 0,gJ _,lF⟩ ?_;rintro(i:Int) w ⟨h0,h1,h2⟩ h;refine ae (λc2=>?_) λc2=>?_
   ·have hi:i.toNat<xs.length:=(by simp at c2;omega);have hi2:i.toNat<ys.length:=(by omega);refine aM h λw h=>?_;refine bS h h0 hi ?_;have hb':=h.le (fX _ _ _);refine bS hb' h0 hi2 ?_;refine dP h a i.toNat (bK hi) rfl ?_;refine dP hb' b i.toNat (bK hi2) rfl ?_;refine mT (hf _ (qy hi) _ (qy hi2)) h λr w h=>?_;obtain⟨hr,h⟩:=h.aP;rw[xX hi,xX hi2,lj,←hr]at h2;refine ae (λc3=>?_) λc3=>?_
    ·have c3:r=false:=(by simpa using c3);rw[c3]at h2;exact au.aH ⟨λh=>(by cases h),λh=>by have:=(h2.1 h).1;cases this⟩ h.aI
    ·have c3:r=true:=(by simpa using c3);rw[c3]at h2;have h2:lj Q xs ys↔lj Q (xs.drop (i.toNat+1)) (ys.drop (i.toNat+1)):=h2.trans ⟨λh=>h.2,λh=>⟨rfl,h⟩⟩;have e:(i+1).toNat=i.toNat+1:=(by omega);rw[gi];exact⟨⟨⟨by show(0:Int)≤i+1;omega,by show(i+1).toNat≤_;omega,by show _↔lj Q (xs.drop (i+1).toNat) (ys.drop (i+1).toNat);rw[e];exact h2⟩,h.aI⟩,by show _-(i+1).toNat<_;omega⟩
   ·have hi:i.toNat=xs.length:=(by simp at c2;omega);rw[hi,v7,c,v7,lj]at h2;exact au.aH ⟨λ_=>h2.2 trivial,λ_=>rfl⟩ h.aI
theorem EM(x y):bu (c29 x y) bg (λr=>bs ((r=true)↔x=y) bg):=
 bC λw S R h=>by
  repeat' (first
   |(refine aM h λw h=>?_)
   |(refine ac ?_)
   |(refine aw h rfl ?_)
   |(refine ah h rfl ?_)
   |(refine aO h ?_)
   |(refine aN h rfl ?_)
   |(refine az h (by rfl) λw h=>?_)
   |(refine aD h λn w h=>?_)
   |(refine aT h λw h=>?_)
   |(refine bh h rfl λw h=>?_;dsimp only[dE,over]at h))
  all_goals exact au.aH (by simp[As]) h.gm
theorem mP(a b xs ys)(hl:xs.length≤4294967296):
  bu (YM a b) (bg^aV a KI xs^aV b KI ys) (λr=>bs ((r=true)↔xs=ys) bg):=
 bC λw S R h=>by
  refine ar (CQ a b _ bg xs ys Eq hl (λx _ y _=>(tT.g (f:=iG) (args:=[.lf (.int .i64 x),.lf (.int .i64 y)]) (caps:=[]) (EM x y)).v)) h λr w h=>?_;obtain⟨hr,h⟩:=h.aP;exact au.aH (hr.trans (ym xs ys)) h.br
section
variable {P:Program} {w0 w:World} {S0 R0:Nat→Prop} {F Q:SP}
theorem ly(t:tT P f args rs (bg^Q) Post)(h:au w0 S0 R0 w F)(hl:oF Q F)[hN:∀x,nl (Post x)](k:∀x w',au w0 S0 R0 w' (Post x^F)→K x w'):call P f args rs K w:=
 bP (A:=bg) (Q:=Q) (F:=bg^F) (G:=F) t (h.le ((aJ _).trans (be _ _))) k
theorem Tn(t:tT P f args rs bg Post)(h:au w0 S0 R0 w F)(k:∀x w',au w0 S0 R0 w' (Post x^F)→K x w'):call P f args rs K w:=
 ar (F:=bg^F) (G:=F) t (h.le ((aJ _).trans (be _ _))) k
theorem zG:∀{l:List α},(∀p∈l,oF (f p) F)→oF (rl f l) F
 |[],_=>Nb F
 |x::l,h=>by
  haveI:=h x (pq ..)
  haveI:=zG (l:=l) λp hp=>h p (nb _ hp)
  exact qh (f x) (rl f l) F
end
structure SJ(o:Ou):Prop where
 a:o.oo.length≤1
 b:o.dr.length≤1000
 c:o.ft.length≤1000
theorem wz:SJ fk:=⟨gJ _,gJ _,gJ _⟩
theorem Ca(i aj:Int):∀(n:Nat) (s:Pm),(na i aj n s).o.oo=s.o.oo∧(na i aj n s).o.dr.length≤s.o.dr.length+1∧(na i aj n s).o.ft.length≤s.o.ft.length+1
 |0,s=>⟨rfl,uX _,uX _⟩
 |n+1,s=>by
  unfold na;split
  ·exact⟨rfl,uX _,uX _⟩
  ·have e:((enter i aj s).2=0∧(enter i aj s).1.o=s.o)∨((enter i aj s).2≠0∧(enter i aj s).1.o.oo=s.o.oo∧(enter i aj s).1.o.dr.length≤s.o.dr.length+1∧(enter i aj s).1.o.ft.length≤s.o.ft.length+1):=by
    unfold enter;dsimp only;split
    ·exact .inl ⟨rfl,rfl⟩
    ·refine .inr ⟨(show(1:Int)≠0 by decide),rfl,?_,?_⟩
     ·show(s.o.dr++[_]).length≤_;rw[gp];exact eE _
     ·show(s.o.ft++[_]).length≤_;rw[gp];exact eE _
   rcases e with⟨e1,e2⟩|⟨e1,e2,e3,e4⟩
   ·rw[aG e1];have:=Ca i aj n (enter i aj s).1;rw[e2]at this;exact this
   ·rw[ay e1];exact⟨e2,e3,e4⟩
theorem Ke(l o):∀a:List Sg,(dj l o a).1.oo=o.oo:=by
 intro a
 induction a generalizing l o with
 |nil=>rfl
 |cons x a ih=>exact ih _ _
theorem VM{k:Int}(hv:jS k v)(d)(xs:List (Int×Int)):SJ (ri v d xs).1.1:=by
 unfold ri;split
 ·exact wz
 show SJ (eC v d xs).2.1;unfold eC;split
 ·exact wz
 split
 ·show SJ (fN v fk).1;unfold fN;split
  ·exact⟨eE _,gJ _,gJ _⟩
  ·dsimp only;split
   ·exact⟨gJ _,gJ _,gJ _⟩
   ·exact wz
 split
 ·exact wz
 split
 ·show SJ (jf v d xs fk).2.1;unfold jf;split
  ·exact wz
  split
  ·split<;>exact wz
  ·split
   ·exact wz
   split
   ·have h1:=wY v.l fk (cO v.q ((dS d).toNat:Int)).1;have h2:=wT hv.q ((dS d).toNat:Int);have h3:=Ke v.l fk (cO v.q ((dS d).toNat:Int)).1;refine⟨?_,?_,?_⟩
    ·show(dj v.l fk (cO v.q ((dS d).toNat:Int)).1).1.oo.length≤1;rw[h3];exact gJ _
    ·show(dj v.l fk (cO v.q ((dS d).toNat:Int)).1).1.dr.length≤1000;have:fk.dr.length=0:=rfl;omega
    ·show(dj v.l fk (cO v.q ((dS d).toNat:Int)).1).1.ft.length≤1000;have:fk.ft.length=0:=rfl;omega
   split
   ·rename_i x _ _ _ _;obtain⟨h1,h2,h3⟩:=Ca ((dS d).toNat:Int) v.aj (fresh (dJ x v.aj d xs).2+1) ⟨(dJ x v.aj d xs).2,v.q,v.l,fk⟩;have e1:fk.dr.length=0:=rfl;have e2:fk.ft.length=0:=rfl;refine⟨?_,?_,?_⟩
    ·show(na _ _ _ _).o.oo.length≤1;rw[h1];exact gJ _
    ·show(na _ _ _ _).o.dr.length≤1000;exact kW h2 (show 0+1≤1000 by decide)
    ·show(na _ _ _ _).o.ft.length≤1000;exact kW h3 (show 0+1≤1000 by decide)
   ·exact wz
 ·exact wz
theorem Fm(hc:yo c)(hd:∀p∈ps,JD p.1):∀j:Nat,j≤1000→j≤ps.length→∀o∈pg (dH c) ps j,SJ o
 |0,_,_=>λ_ h=>by cases h
 |j+1,h1,h2=>λo ho=>by
  rcases eQ.1 ho with ho|ho
  ·exact Fm hc hd j (by omega) (by omega) o ho
  ·rw[j_.1 ho];exact VM (yG hc hd j (by omega) (by omega)) _ _
def oQ(x:OR):SP:=aV x.1.1 KS x.2.oo^aV x.1.2.1 KS x.2.dr^aV x.1.2.2.1 KI x.2.ft
theorem Tc:∀(rs:List OR) (w:World) (S R:Nat→Prop),(rl oR rs).h w S R→∀x∈rs,x.1.2.2.2=x.2.wd
 |[],_,_,_,_=>λ_ h=>by cases h
 |y::l,w,S,R,⟨_,_,_,_,h1,h2,_⟩=>λx hx=>by
  rcases ec.1 hx with e|e
  ·rw[e];exact h1.1
  ·exact Tc l _ _ _ h2 x e
theorem G2(h:au w0 S0 R0 w F)[t:Take (rl oR rs) F G]:∀x∈rs,x.1.2.2.2=x.2.wd:=by
 obtain⟨S,R,hh,_⟩:=(h.le t.le).br.own;exact Tc rs _ _ _ hh
theorem I7(hx:x∈rs):Rd x.1.1 (rl oR rs) KS x.2.oo∧Rd x.1.2.1 (rl oR rs) KS x.2.dr∧Rd x.1.2.2.1 (rl oR rs) KI x.2.ft:=by
 obtain⟨i,hi⟩:=qv.1 hx;have r:∀{s:Sl} {K:Ks} {ys:List (Ks.T K)},Rd s (aS x.1.1 KS x.2.oo^aS x.1.2.1 KS x.2.dr^aS x.1.2.2.1 KI x.2.ft) K ys→Rd s (rl oR rs) K ys:=λ{s K ys} r=>x4 hi ⟨λw S R h=>r.rd w S R h.2,λw S R h=>r.fp w S R h.2⟩;exact⟨r inferInstance,r inferInstance,r inferInstance⟩
theorem Tb(hx:x∈rs):Rd x.1.1 (rl oQ rs) KS x.2.oo∧Rd x.1.2.1 (rl oQ rs) KS x.2.dr∧Rd x.1.2.2.1 (rl oQ rs) KI x.2.ft:=by
 obtain⟨i,hi⟩:=qv.1 hx;exact⟨x4 hi (by unfold oQ;infer_instance),x4 hi (by unfold oQ;infer_instance),x4 hi (by unfold oQ;infer_instance)⟩
theorem wl(a b xs ys)(hl:xs.length≤4294967296)(hw1:∀x∈xs,x.1.2.2.2=x.2.wd∧SJ x.2)(hw2:∀x∈ys,x.1.2.2.2=x.2.wd)(he:xs.map Prod.snd=ys.map Prod.snd):
  bu (YL a b (.mk (.func kl) [] [])) (bg^(aV a fm (xs.map Prod.fst)^rl oQ xs)^(aV b fm (ys.map Prod.fst)^rl oQ ys)) (λr=>bs (r=true) bg):=
 bC λw0 S R h=>by
  have h:au w0 S R w0 (aV a fm (xs.map Prod.fst)^aV b fm (ys.map Prod.fst)^rl oQ xs^rl oQ ys):=h.drop.aI;have ha:=((h.take (aV a fm (xs.map Prod.fst))).rd (s:=a)).2;have hb:=((h.take (aV b fm (ys.map Prod.fst))).rd (s:=b)).2;rw[fz]at ha hb;have hlen:xs.length=ys.length:=by have:=c_ List.length he;simpa using this
  refine ae (λc=>absurd c (by rw[ha,hb,hlen];simp)) λ_=>?_;refine cS (λ_:Int=>aV a fm (xs.map Prod.fst)^aV b fm (ys.map Prod.fst)^rl oQ xs^rl oQ ys) (λi:Int=>0≤i∧i≤xs.length) (λi:Int=>xs.length-i.toNat) h ⟨gQ 0,by omega⟩ ?_;rintro(i:Int) w ⟨i0,i1⟩ h;refine ae (λc=>?_) λc=>?_
  ·have c:i<((a.len:Nat):Int):=bV c;have hi:i.toNat<xs.length:=(by omega);have hi2:i.toNat<ys.length:=(by omega);obtain⟨p,hp⟩:∃p,xs[i.toNat]?=some p:=⟨_,bK hi⟩;obtain⟨q,hq⟩:∃q,ys[i.toNat]?=some q:=⟨_,bK hi2⟩;have hpm:=gI hp;have hqm:=gI hq;have hpq:p.2=q.2:=by
    have:=c_ (λl=>l[i.toNat]?) he;simp only[kV,hp,hq,rq,nL]at this;exact this
   have hpf:(xs.map Prod.fst)[i.toNat]?=some p.1:=(by rw[kV,hp];rfl);have hqf:(ys.map Prod.fst)[i.toNat]?=some q.1:=(by rw[kV,hq];rfl);obtain⟨r1,r2,r3⟩:=Tb hpm;obtain⟨r4,r5,r6⟩:=Tb hqm;obtain⟨hwp,hsm⟩:=hw1 p hpm;have t:=(tT.g (f:=kl) (args:=[.agg (Ks.mk fm p.1),.agg (Ks.mk fm q.1)]) (caps:=[]) (NK p.1 q.1 p.2 q.2 ⟨by have:=hsm.a;omega,by have:=hsm.b;omega,by have:=hsm.c;omega⟩ hwp (hw2 q hqm))).v;refine aM h λw h=>?_;refine bS (s:=a) (h.take (aV a fm (xs.map Prod.fst))) i0 (by rw[fz];exact hi) (bS (s:=b) (h.take (aV b fm (ys.map Prod.fst))) i0 (by rw[fz];exact hi2) ?_);refine dP (h.take (aV a fm (xs.map Prod.fst))) a i.toNat hpf rfl (dP (h.take (aV b fm (ys.map Prod.fst))) b i.toNat hqf rfl ?_);refine Ph (A:=bg) (Q:=(aV p.1.1 KS p.2.oo^aV p.1.2.1 KS p.2.dr^aV p.1.2.2.1 KI p.2.ft)^aV q.1.1 KS q.2.oo^aV q.1.2.1 KS q.2.dr^aV q.1.2.2.1 KI q.2.ft) t (h.le ((aJ _).trans (be _ _))) λr w h=>?_;obtain⟨hr,h⟩:=h.aP;rw[hr.2 hpq];have h:=h.drop;refine ae (λc=>by cases c) λ_=>?_;have e:(i+1).toNat=i.toNat+1:=(by omega);rw[gi];exact⟨⟨⟨by show(0:Int)≤i+1;omega,by show i+1≤_;omega⟩,h⟩,by show xs.length-(i+1).toNat<_;omega⟩
  ·exact au.aH rfl h.gm
end YK

namespace Zi
open bH bp ff lL lN fe xH A9 yM q_ Cs BE Ei Jv Ls LB Py PK Pz WU Xt YK
theorem Nc(r ds)[t:Rd r F KD (ds.map Prod.fst)](h:∀p∈ds,Rd (dR p.1) F KR p.2):oF (jM r ds) F:=
 qh _ _ _ (b:=zG λp hp=>by haveI:=h p hp;infer_instance)
theorem Oj{m:Int}(hp:∀p∈ps,WW p)(hr:∀p∈ps,Rd (dR p.1) F KR p.2)(hlen:∀p∈ps,(dR p.1).len=p.2.length):∀q∈jV m ps,Rd (dR q.1) F KR q.2:=by
 intro q hq;obtain⟨p,hpm,rfl⟩:=pu.1 hq;have hpm:=Af hpm
 haveI:=hr p hpm
 exact RQ p F (hp p hpm).cp (hlen p hpm)
theorem RI(h:au w0 S0 R0 w (jM s ps)):∀p∈ps,(dR p.1).len=p.2.length:=λp hp=>by
 obtain⟨i,hi⟩:=qv.1 hp
 haveI:=FJ hi
 exact(h.rd (s:=dR p.1)).2
theorem HH:∀p∈ps,Rd (dR p.1) (rl (λp:BG=>aV (dR p.1) KR p.2) ps) KR p.2:=λp hp=>by
 obtain⟨i,hi⟩:=qv.1 hp;exact FJ hi
theorem QX{m:Int}(hp:∀p∈ps,WW p):∀q∈jV m ps,JD q.1∧q.2.length≤4294967296:=λq hq=>by
 obtain⟨p,hpm,rfl⟩:=pu.1 hq;exact⟨Mz (hp p (Af hpm)),by show(p.2.take 6).length≤_;rw[fO];omega⟩
theorem Ka(ps)(m:Int):(jV m ps).length=min m.toNat ps.length:=by unfold jV;rw[fz,fO]
end Zi

namespace sT
open fb
abbrev KO:Ks:=El
abbrev Opn:=Ks.T KO
abbrev oR(o:Opn):Bool:=o.2.2.2.2.2.2.2.2.2.2
def SA:Int→List Pc→Int→Prop
 |a,[],e=>a≤e
 |a,p::l,e=>a≤iX p∧iX p<xU p∧(yC p=true→jO p=false)∧SA (xU p) l e
structure JC(n:Nat)(v:List Pc×Int):Prop where
 chain:SA 0 v.1 v.2
 GH:v.1.length≤n
 low:v.2≤5000*(n:Int)
theorem WS(n:Int):u64.wrap n=n%18446744073709551616:=by simp[IntKind.wrap,IntKind.bits,IntKind.signed]
theorem Io(n a b:Int):u64.wrap (u64.wrap (n+a)-b)=u64.wrap (n+u64.wrap (a-b)):=by simp only[WS];omega
end sT

namespace yN
open fb sT
theorem Rl(p):(if jO p then iA p true else iA p (!yC p))=fo p:=by
 obtain⟨a1,a2,a3,a4,a5,a6,a7,a8,a9⟩:=p;cases a8<;>cases a9<;>rfl
theorem DK(p a xs)(hx:xs.length≤4294967296):bu (Up p a) (bg^aV a KR xs) (λr=>bs (r=xs.any (tX p)) bg):=
 bC λw0 S R h=>by
  have ha:=(h.drop.rd (s:=a)).2;refine aD h λn w h=>?_;have h:au w0 S R w (aV a KR xs^af n (Ks.mk aF p)):=h.aI;refine cS (λ(_:Int)=>aV a KR xs^af n (Ks.mk aF p)) (λ(i:Int)=>(0≤i∧i≤xs.length)∧xs.any (tX p)=(xs.drop i.toNat).any (tX p)) (λ(i:Int)=>xs.length-i.toNat) h ⟨⟨by simp,by simp⟩,rfl⟩ ?_;rintro(i:Int) w ⟨⟨h0,h1⟩,h2⟩ h;refine ae (λc=>?_) λc=>?_
  ·have hi:i.toNat<xs.length:=(by simp at c;omega);obtain⟨x,hx⟩:∃x,xs[i.toNat]?=some x:=⟨_,bK hi⟩;have e:(i+1).toNat=i.toNat+1:=(by omega);rw[qI hx,List.any_cons]at h2;have hgo:tX p x=false→(((0≤i64.wrap (i+1)∧i64.wrap (i+1)≤xs.length)∧xs.any (tX p)=(xs.drop (i64.wrap (i+1)).toNat).any (tX p))∧au w0 S R w (aV a KR xs^af n (Ks.mk aF p)))∧xs.length-(i64.wrap (i+1)).toNat<xs.length-i.toNat:=λhf=>by
    rw[gi (n:=i+1),e];rw[hf,Ao]at h2;exact⟨⟨⟨⟨by omega,by omega⟩,h2⟩,h⟩,by omega⟩
   clear hgo;refine aM h λw h=>?_;refine bS h h0 hi ?_;refine ah h rfl ?_;refine fj h a i.toNat 0 x hx rfl (by decide) rfl ?_;have hgo:tX p x=false→(((0≤i64.wrap (i+1)∧i64.wrap (i+1)≤xs.length)∧xs.any (tX p)=(xs.drop (i64.wrap (i+1)).toNat).any (tX p))∧au w0 S R w (aV a KR xs^af n (Ks.mk aF p)))∧xs.length-(i64.wrap (i+1)).toNat<xs.length-i.toNat:=λhf=>by
    rw[gi (n:=i+1),e];rw[hf,Ao]at h2;exact⟨⟨⟨⟨by omega,by omega⟩,h2⟩,h⟩,by omega⟩
   refine ae (λc=>?_) λc=>?_
   ·refine bS h h0 hi ?_;refine ah h rfl ?_;refine fj h a i.toNat 1 x hx rfl (by decide) rfl ?_;refine ae (λc2=>?_) λc2=>?_
    ·refine au.aH ?_ h.gm;have:tX p x=true:=by
      have c:decide (x.1≤p.1)=true:=c;have c2:decide (x.2≥p.2.1)=true:=c2;rw[tX,c,c2];rfl
     rw[h2,this];rfl
    ·exact hgo (by
      have c:decide (x.1≤p.1)=true:=c;have c2:decide (x.2≥p.2.1)=false:=c2;rw[tX,c,c2];rfl)
   ·exact hgo (by
     have c:decide (x.1≤p.1)=false:=c;rw[tX,c];rfl)
  ·have hi:i.toNat=xs.length:=(by simp at c;omega);rw[hi,v7]at h2;exact au.aH (by rw[h2];rfl) h.gm
theorem LQ{e:Int}{xs:List (Int×Int)}{i:Nat}{x:Int×Int}(h:xs[i]?=some x):(xs.take (i+1)).any (dM e)=((xs.take i).any (dM e)||dM e x):=by rw[lC,h,List.any_append];simp
def oV(b:Nat)(v:List Pc×Int)(upto:Int)(xs:List (Int×Int))(r:Sl×Int×Int):SP:=
 cond (uN v upto xs) (bs (r.2.1=(cI (eR upto xs v.1)).2.1∧r.2.2=0) (aS r.1 aF (fQ upto xs v.1)^kT b ((cI (eR upto xs v.1)).1,v.2)))
  (bs (r.1=⟨none,0,0⟩∧r.2.1=0∧r.2.2=11) (aS r.1 aF []^kT b v))
end yN

namespace PI
open bH bp _root_.Go.X.Target gM Jt
theorem Pg(w:Int):bu (Uo w false) bg (λr=>ex λn:Nat=>bs (r=some ⟨n,0⟩) (af n (ad.eg ((Wn.mk w 0 0 0 0 0 0 0))))):=
 bC λw0 S R h=>by
  refine aD h λn w h=>?_;refine ae (λc=>(by cases c)) λ_=>?_;exact au.ie n (au.aH rfl h.aI)
def vAt(v:Wn)(i:Int):Int:=if i=0 then v.v0 else if i=1 then v.v1 else v.v2
theorem wL(b v)(x i:Int)(hi:i=0∨i=1∨i=2):bu (Mi (some ⟨b,0⟩) x i) (af b (ad.eg v)) (λr=>bs (r=decide (x≥vAt v i)) (af b (ad.eg v))):=
 bC λw0 S R h=>by
  refine ac (ah h rfl ?_);refine ae (λc=>(by cases c)) λ_=>ac ⟨by omega,?_⟩;rcases hi with rfl|rfl|rfl
  ·exact ah h rfl (au.aH rfl h.aI)
  ·exact ah h rfl (au.aH rfl h.aI)
  ·exact ah h rfl (au.aH rfl h.aI)
def Pf(v:Wn)(i t x:Int):Wn:=if i=1 then{v with t1:=t,v1:=x}else{v with t2:=t,v2:=x}
theorem mS(b v)(i t x:Int)(hi:i=1∨i=2):bu (EE (some ⟨b,0⟩) i t x) (af b (ad.eg v)) (λ_=>af b (ad.eg ((Pf v i t x)))):=
 bC λw0 S R h=>by
  refine aM h λw h=>ac (ac ⟨by omega,?_⟩);rcases hi with rfl|rfl
  ·refine aA h b (ad.eg ({v with t1:=t})) rfl rfl rfl λw h=>⟨by omega,?_⟩;refine aA h b (ad.eg ({v with t1:=t,v1:=x})) rfl rfl rfl λw h=>?_;exact au.br (A:=af b (ad.eg ((Pf v 1 t x)))) h
  ·refine aA h b (ad.eg ({v with t2:=t})) rfl rfl rfl λw h=>⟨by omega,?_⟩;refine aA h b (ad.eg ({v with t2:=t,v2:=x})) rfl rfl rfl λw h=>?_;exact au.br (A:=af b (ad.eg ((Pf v 2 t x)))) h
theorem Cn(b v)(t x:Int):bu (Qy (some ⟨b,0⟩) t x) (af b (ad.eg v)) (λ_=>af b (ad.eg ((v.push t x)))):=
 bC λw0 S R h=>by
  refine aM h λw h=>ac (ac (ac (ac ⟨by decide,by decide,by decide,by decide,ah h rfl (ah h rfl (ah h rfl (ah h rfl (ac ?_))))⟩)));refine aA h b (ad.eg ({v with t0:=v.t1,t1:=v.t2,t2:=t})) rfl rfl rfl λw h=>ac ?_;refine aA h b (ad.eg ((v.push t x))) rfl rfl rfl λw h=>?_;exact h.br
theorem Ib(b v)(t x:Int):bu (U1 (some ⟨b,0⟩) t x) (af b (ad.eg v)) (λ_=>af b (ad.eg (((v.tick t).all t x)))):=
 bC λw0 S R h=>by
  refine ac (aA h b (ad.eg ({v with t0:=t,t1:=t,t2:=t})) rfl rfl rfl λw h=>?_);refine ac (aA h b (ad.eg ((v.all t x))) rfl rfl rfl λw h=>?_);refine ac (ah h rfl (ac ?_));refine aA h b (ad.eg (((v.tick t).all t x))) rfl rfl rfl λw h=>?_;exact h.br
theorem AP(b:Nat)(v:Wn)(hv:va v)(t x:Int)(ht:U t)(hx:U x):bu (Us (some ⟨b,0⟩) t x) (af b (ad.eg v))
  (λr=>bs (r=(A5 v t x).v0) (af b (ad.eg ((A5 v t x))))):=
 bC λw0 S R h=>by
  refine ac (ah h rfl ?_);have hT:(if v.la>t then v.la else t)=(v.tick t).la:=by
   show _=if t>v.la then t else v.la
   (repeat' split)<;>omega
  simp only[hT];refine ac (aA h b (ad.eg ((v.tick t))) rfl rfl rfl λw h=>?_);have hu:=hv.tick ht;have e0:A5 v t x=wU (v.tick t) (v.tick t).la x:=rfl;rw[e0];generalize v.tick t=u at*
  have hla:=hu.la;have ht2:=hu.t2;have hw:=hu.w;unfold U at hla ht2 hw;refine aQ h (λ_=>af b (ad.eg u)^bg) (λy:Bool=>y=decide (x≥u.v0∨pQ u.la u.t2 u.w)) (λ(y:Bool) w hy h=>?_) ?_
  ·rw[hy];refine ae (λc=>?_) λc=>?_
   ·have c:x≥u.v0∨pQ u.la u.t2 u.w:=cC;refine ar (Ib b u u.la x) h λr w h=>?_;have e:wU u u.la x=u.all u.la x:=(by unfold wU;rw[aG c]);rw[e];have e2:u.tick u.la=u:=(by unfold Wn.tick;simp);rw[e2]at h;exact au.aH rfl h.br
   have c:¬(x≥u.v0∨pQ u.la u.t2 u.w):=cC;have e:wU u u.la x=wH (A4 u u.la x) u.la x:=(by unfold wU;rw[ay c]);rw[e];refine aQ h (λ_=>af b (ad.eg ((A4 u u.la x)))^bg) (λ_=>True) (λ_ w _ h=>?_) ?_
   ·have hs:=hu.A4 hu.la hx;have hT:=hu.la;generalize u.la=T at*
    generalize A4 u T x=s at*
    refine ac ⟨by decide,ah h rfl ?_⟩;refine aK (ke T s.t0 hT hs.t0) h λw h=>?_;refine aQ h (λ_=>af b (ad.eg ((wH s T x)))^bg) (λ_=>True) (λ_ w _ h=>?_) ?_
    ·refine ac ⟨by decide,ah h rfl ?_⟩;exact au.aH rfl h.br
    refine ac (ah h rfl ?_);refine ae (λc1=>?_) λc1=>?_
    ·have c1:pQ T s.t0 s.w:=bV c1;refine ar (Cn b s T x) h λ_ w h=>?_;refine aM h λw h=>ac (ac ⟨by decide,ah h rfl (ah h rfl ?_)⟩);refine aK (ke T s.t1 hT hs.t1) h λw h=>?_;refine aN h rfl ?_;refine ae (λc2=>?_) λc2=>?_
     ·have c2:pQ T s.t1 s.w:=bV c2;refine ar (Cn b (s.push T x) T x) h λ_ w h=>?_;have e:wH s T x=(s.push T x).push T x:=(by unfold wH;rw[aG c1,aG c2]);rw[e];exact⟨trivial,h.aI⟩
     ·have c2:¬pQ T s.t1 s.w:=bY c2;have e:wH s T x=s.push T x:=(by unfold wH;rw[aG c1,ay c2]);rw[e];exact⟨trivial,h.aI⟩
    have c1:¬pQ T s.t0 s.w:=bY c1;have hf:∀k,(wH s T x=k)=((if s.t1=s.t0∧pQ T s.t0 (s.w/4)then s.Ef T x else if s.t2=s.t1∧pQ T s.t0 (s.w/2)then s.s2 T x else s)=k):=λk=>by unfold wH;rw[ay c1]
    have h:au w0 S R _ (af b (ad.eg s)^bg):=h.aI;refine aQ h (λ_=>af b (ad.eg s)^bg) (λy:Bool=>y=decide (s.t1=s.t0∧pQ T s.t0 (s.w/4))) (λ(y:Bool) w hy h=>?_) ?_
    ·rw[hy];refine ae (λc2=>?_) λc2=>?_
     ·have c2:s.t1=s.t0∧pQ T s.t0 (s.w/4):=gK;refine ar (mS b s 1 T x (.inl rfl)) h λr w h=>?_;refine ar (mS b (Pf s 1 T x) 2 T x (.inr rfl)) h λr w h=>?_;have e:wH s T x=s.Ef T x:=(by rw[hf,aG c2]);rw[e];have h:au w0 S R w (af b (ad.eg ((s.Ef T x)))^bg):=h;exact⟨trivial,h⟩
     have c2:¬(s.t1=s.t0∧pQ T s.t0 (s.w/4)):=gK;refine aM h λw h=>ac (ac ⟨by decide,by decide,ah h rfl (ah h rfl ?_)⟩);refine ae (λc3=>?_) λc3=>?_
     ·have c3:s.t2=s.t1:=(by simpa using c3);refine ac (ah h rfl ?_);rw[U2 hs.w];refine ae (λc4=>?_) λc4=>?_
      ·have c4:pQ T s.t0 (s.w/2):=bV c4;refine ar (mS b s 2 T x (.inr rfl)) h λr w h=>?_;have e:wH s T x=s.s2 T x:=(by rw[hf,ay c2,aG ⟨c3,c4⟩]);rw[e];have h:au w0 S R w (af b (ad.eg ((s.s2 T x)))^bg):=h;exact⟨trivial,h⟩
      ·have c4:¬pQ T s.t0 (s.w/2):=bY c4;have e:wH s T x=s:=(by rw[hf,ay c2,ay (λhh=>c4 hh.2)]);rw[e];exact⟨trivial,h⟩
     ·have c3:¬s.t2=s.t1:=(by simpa using c3);have e:wH s T x=s:=(by rw[hf,ay c2,ay (λhh=>c3 hh.1)]);rw[e];exact⟨trivial,h⟩
    ·refine aM h λw h=>ac (ac ⟨by decide,by decide,ah h rfl (ah h rfl ?_)⟩);refine ae (λc3=>?_) λc3=>?_
     ·have c3:s.t1=s.t0:=(by simpa using c3);refine ac (ah h rfl ?_);rw[U4 hs.w];exact⟨by rw[jG];simp[c3,pQ],h⟩
     ·have c3:¬s.t1=s.t0:=(by simpa using c3);exact⟨by simp[c3],h⟩
   ·refine aK (wL b u x 1 (by omega)) h λw h=>?_;refine ae (λc1=>?_) λc1=>?_
    ·have c1:x≥u.v1:=bV c1;refine ar (mS b u 1 u.la x (.inl rfl)) h λr w h=>?_;refine ar (mS b (Pf u 1 u.la x) 2 u.la x (.inr rfl)) h λr w h=>?_;have e:A4 u u.la x=u.Ef u.la x:=(by unfold A4;rw[aG c1]);rw[e];have h:au w0 S R w (af b (ad.eg ((u.Ef u.la x)))^bg):=h;exact⟨trivial,h⟩
    have c1:¬x≥u.v1:=bY c1;refine aK (wL b u x 2 (by omega)) h λw h=>?_;refine ae (λc2=>?_) λc2=>?_
    ·have c2:x≥u.v2:=bV c2;refine ar (mS b u 2 u.la x (.inr rfl)) h λr w h=>?_;have e:A4 u u.la x=u.s2 u.la x:=(by unfold A4;rw[ay c1,aG c2]);rw[e];have h:au w0 S R w (af b (ad.eg ((u.s2 u.la x)))^bg):=h;exact⟨trivial,h⟩
    ·have c2:¬x≥u.v2:=bY c2;have e:A4 u u.la x=u:=(by unfold A4;rw[ay c1,ay c2]);rw[e];exact⟨trivial,h⟩
  ·refine aM h λw h=>?_;refine aK (wL b u x 0 (by omega)) h λw h=>?_;refine ae (λc1=>?_) λc1=>?_
   ·have c1:x≥u.v0:=bV c1;exact⟨by simp[c1],h⟩
   have c1:¬x≥u.v0:=bY c1;refine ac ⟨by decide,ah h rfl ?_⟩;refine ae (λc2=>?_) λc2=>?_
   ·have c2:u.la>u.t2:=bV c2;refine ac (ac ⟨by decide,ah h rfl (ah h rfl ?_)⟩);rw[ja (n:=u.la-u.t2)];have:dX u.la u.t2=u.la-u.t2:=(by unfold dX;rw[ay (by omega)]);exact⟨by rw[jG];simp[c1,pQ,this],h⟩
   ·have c2:¬u.la>u.t2:=bY c2;have:¬pQ u.la u.t2 u.w:=(by unfold pQ dX;split<;>omega);exact⟨by simp[c1,this],h⟩
end PI

namespace yb
open bH bp _root_.Go.X.Target gM fK PI
theorem tv(b nw:Nat)(v:Rm):bu (CG (some ⟨b,0⟩)) (af b (ad.db nw v)^af nw (ad.eg v.m.w)) (λr=>bs (r=zJ v.m) (af b (ad.db nw v)^af nw (ad.eg v.m.w))):=
 bC λw0 S R h=>by
  refine ac (ah h rfl (ae (λc=>?_) λc=>?_))
  ·have c:v.m.q.jh=true:=c;refine ac (ah h rfl ?_);exact au.aH (by unfold zJ;rw[c];rfl) h.aI
  ·have c:v.m.q.jh=false:=c;refine ac (ah h rfl (ac ⟨by decide,ah h rfl ?_⟩));exact au.aH (by unfold zJ;rw[c];rfl) h.aI
theorem OK(b nw v s)(hs:oi s):bu (Uq (some ⟨b,2⟩) s) (af b (ad.db nw v)) (λr=>bs (r=rB v.m.r s) (af b (ad.db nw ({v with m:={v.m with r:=rU v.m.r s}})))):=
 bC λw0 S R h=>by
  have h0:=hs.Ep.1;simp only[fE]at h0;repeat' (first
   |(refine aM h λw h=>?_)
   |(refine ac ?_)
   |(refine aw h rfl ?_)
   |(refine ah h rfl ?_)
   |(refine aO h ?_)
   |(refine aN h rfl ?_)
   |(refine az h (by rfl) λw h=>?_)
   |(refine aD h λn w h=>?_)
   |(refine aT h λw h=>?_)
   |(refine bh h rfl λw h=>?_;dsimp only[dE,over]at h)
   |(refine ae (λc=>?_) λc=>?_)
   |(refine⟨_,λ_ _ h=>h,?_⟩;dsimp only))
  all_goals simp only[qQ,Hj,iZ,Dk,ne_eq]at*
  ·have e:rB v.m.r s=false:=(by simp[rB,fE,FR];omega);exact au.aH e.symm (h.dQ (b:=b) (L':=(ad.db nw ({v with m:={v.m with r:=rU v.m.r s}}))) (by simp[rU,e])).aI
  ·rename_i c1;have e:rB v.m.r s=false:=by simp[rB,fE,FR];omega
   exact au.aH e.symm (h.dQ (b:=b) (L':=(ad.db nw ({v with m:={v.m with r:=rU v.m.r s}}))) (by simp[rU,e])).aI
  ·rename_i c1;have e:rB v.m.r s=true:=by simp[rB,fE,FR];omega
   exact au.aH e.symm (h.dQ (b:=b) (L':=(ad.db nw ({v with m:={v.m with r:=rU v.m.r s}}))) (by simp[rU,e])).aI
theorem K6(b nw v)(hv:WX v.m.p)(st li)(bw:Int):bu (U5 (some ⟨b,4⟩) st li bw) (af b (ad.db nw v)) (λ_=>af b (ad.db nw ({v with m:={v.m with p:=pU v.m.p st li bw}}))):=
 bC λw0 S R h=>by
  have h0:=hv.n;have h1:=hv.full;repeat' (first
   |(refine aM h λw h=>?_)
   |(refine ac ?_)
   |(refine aw h rfl ?_)
   |(refine ah h rfl ?_)
   |(refine aO h ?_)
   |(refine aN h rfl ?_)
   |(refine az h (by rfl) λw h=>?_)
   |(refine aD h λn w h=>?_)
   |(refine aT h λw h=>?_)
   |(refine bh h rfl λw h=>?_;dsimp only[dE,over]at h)
   |(refine ar (nY _ _ _ hv.dy (bm 320) (bm 256)) h λr w h=>?_;obtain⟨hr,h⟩:=h.aP;(try dsimp only at hr h);try rw[hr])
   |(refine ae (λc=>?_) λc=>?_)
   |(refine⟨_,λ_ _ h=>h,?_⟩;dsimp only))
  ·exact(h.dQ (b:=b) (L':=(ad.db nw (({v with m:={v.m with p:=pU v.m.p st li bw}})))) (by
    have e:(!v.m.p.full&&st&&!li)=false:=(by revert c;cases v.m.p.full<;>cases st<;>cases li<;>simp);simp[pU,e])).aI
  ·have c1:((v.m.p.full||(!st))||li)=false:=(by assumption);have e:(!v.m.p.full&&st&&!li)=true:=(by revert c1;cases v.m.p.full<;>cases st<;>cases li<;>simp);have c:bw≥qN v.m.p.dy 320 256:=bV c;exact(h.dQ (b:=b) (L':=(ad.db nw (({v with m:={v.m with p:=pU v.m.p st li bw}})))) (by simp only[pU,e,iz,aG c])).aI
  ·have c1:((v.m.p.full||(!st))||li)=false:=(by assumption);have e:(!v.m.p.full&&st&&!li)=true:=(by revert c1;cases v.m.p.full<;>cases st<;>cases li<;>simp);have c:¬bw≥qN v.m.p.dy 320 256:=bY c;have hf:v.m.p.full=false:=(by revert e;cases v.m.p.full<;>simp);have hn:=h1 hf;exact(h.dQ (b:=b) (L':=(ad.db nw (({v with m:={v.m with p:=pU v.m.p st li bw}})))) (by
    have e3:i64.wrap (v.m.p.n+1)=v.m.p.n+1:=gi;have e4:decide (v.m.p.n+1≥3)=decide (v.m.p.n+1=3):=(by rw[jG];simp;omega);simp only[pU,e,iz,ay c,e3,e4])).aI
theorem FI(b nw v)(aj ph:Int)(hp:0≤ph∧ph<100):bu (Mj (some ⟨b,7⟩) aj ph) (af b (ad.db nw v)) (λ_=>af b (ad.db nw ({v with m:={v.m with c:=Mu aj ph}}))):=
 bC λw0 S R h=>by
  have e:ph.tmod 8=ph%8:=FC hp.1;rw[e];repeat' (first
   |(refine aM h λw h=>?_)
   |(refine ac ?_)
   |(refine aw h rfl ?_)
   |(refine ah h rfl ?_)
   |(refine aO h ?_)
   |(refine aN h rfl ?_)
   |(refine az h (by rfl) λw h=>?_)
   |(refine aD h λn w h=>?_)
   |(refine aT h λw h=>?_)
   |(refine bh h rfl λw h=>?_;dsimp only[dE,over]at h)
   |(refine ae (λc=>?_) λc=>?_)
   |(refine⟨_,λ_ _ h=>h,?_⟩;dsimp only))
  ·exfalso;have c:ph%8<0:=bV c;omega
  ·exact(h.dQ (b:=b) (L':=(ad.db nw (({v with m:={v.m with c:=Mu aj ph}})))) (by simp only[Mu])).aI
theorem RO(b nw v):bu (U7 (some ⟨b,7⟩)) (af b (ad.db nw v)) (λr=>bs (r=cG v.m.c) (af b (ad.db nw v))):=
 bC λw0 S R h=>by
  repeat' (first
   |(refine aM h λw h=>?_)
   |(refine ac ?_)
   |(refine aw h rfl ?_)
   |(refine ah h rfl ?_)
   |(refine aO h ?_)
   |(refine aN h rfl ?_)
   |(refine az h (by rfl) λw h=>?_)
   |(refine aD h λn w h=>?_)
   |(refine aT h λw h=>?_)
   |(refine bh h rfl λw h=>?_;dsimp only[dE,over]at h)
   |(refine ae (λc=>?_) λc=>?_)
   |(refine⟨_,λ_ _ h=>h,?_⟩;dsimp only))
  all_goals exact au.aH (by simp_all[cG]) h.aI
theorem KV(b nw v)(hv:yo v.m.c)(aj bT bo fl up one:Int)(hn:U aj):bu (U3 (some ⟨b,7⟩) aj bT bo fl up one) (af b (ad.db nw v)) (λ_=>af b (ad.db nw ({v with m:={v.m with c:=cU v.m.c aj bT bo fl up one}}))):=
 bC λw0 S R h=>by
  have hph:=hv.ph;refine ac (ah h rfl (ar (ke aj v.m.c.lg hn hv.lg) h λr w h=>?_));obtain⟨hr,h⟩:=h.aP;refine aQ h (λ_=>af b (ad.db nw v)) (λy:Bool=>y=cB v.m.c aj bT bo fl up one) (λ(y:Bool) w hy h=>?_) ?_
  ·refine ae (λc=>?_) λc=>?_
   ·refine ac (ah h rfl ?_);rw[gi (n:=v.m.c.ph+1)];refine ar (FI b nw v aj (v.m.c.ph+1) (by omega)) h λ_ w h=>?_;have e:cU v.m.c aj bT bo fl up one=Mu aj (v.m.c.ph+1):=by unfold cU;rw[←hy,c];rfl
    rw[e];exact h.br
   ·have e:cU v.m.c aj bT bo fl up one=v.m.c:=(by unfold cU;rw[←hy,c];rfl);rw[e];exact h
  ·repeat' (first
    |(refine aM h λw h=>?_)
    |(refine ac ?_)
    |(refine aw h rfl ?_)
    |(refine ah h rfl ?_)
    |(refine aO h ?_)
    |(refine aN h rfl ?_)
    |(refine az h (by rfl) λw h=>?_)
    |(refine aD h λn w h=>?_)
    |(refine aT h λw h=>?_)
    |(refine bh h rfl λw h=>?_;dsimp only[dE,over]at h)
    |(refine ae (λc=>?_) λc=>?_)
    |(refine⟨_,λ_ _ h=>h,?_⟩;dsimp only))
   all_goals refine⟨?_,h.aI⟩
   ·simp only[qQ]at c;simp[cB,c,hr]
   ·rename_i c1;simp only[qQ]at c;simp[cB,c,hr]
   ·rename_i c1;simp only[Hj,ne_eq]at c c1;simp only[cB,ay c,ay c1,hr]
def Rel(v:Rm):Prop:=v.m.b.on=true→v.set=decide (v.m.b.kj≠0)∧(v.set=true→v.pN=v.m.b.kj)
abbrev wB(v:Rm)(x:Pb):Rm:={v with m:={v.m with b:=x}}
theorem HS(b nw:Nat)(v:Rm)(hv:JC v.m.b)(hR:Rel v)(aj bT fl floor:Int)(st:Bool)(hn:U aj)(hrt:U bT):bu (U6 (some ⟨b,9⟩) aj bT st fl floor) (af b (ad.db nw v))
  (λr=>xQ (λu:Rm=>r=(bU v.m.b aj bT st fl floor).1∧u.m={v.m with b:=(bU v.m.b aj bT st fl floor).2}∧Rel u∧u.g=v.g) (λu=>af b (ad.db nw u))):=
 bC λw0 S R h=>by
  refine aQ h (λ_=>af b (ad.db nw v)) (λy:Bool=>y=Bl v.m.b aj) (λ(y:Bool) w hy h=>?_) ?_
  ·rw[hy];refine aQ h (λ_=>af b (ad.db nw ((wB v (lR v.m.b aj bT))))) (λ_=>True) (λ_ w _ h=>?_) ?_
   ·have eon:(lR v.m.b aj bT).on=v.m.b.on:=(by unfold lR;split<;>rfl);have etil:(lR v.m.b aj bT).kj=v.m.b.kj:=(by unfold lR;split<;>rfl);have hR2:Rel (wB v (lR v.m.b aj bT)):=λhh=>by
     have:=hR (by rw[←eon];exact hh);simpa [etil]using this
    unfold bU;refine aQ h (λ_=>af b (ad.db nw ((wB v (lR v.m.b aj bT))))) (λy:Bool=>y=(Bl v.m.b aj&&!v.m.b.on)) (λ(y:Bool) w hy h=>?_) ?_
    ·rw[hy];generalize lR v.m.b aj bT=x at*
     refine ae (λc=>?_) λc=>?_
     ·rw[aG c];repeat' (first
       |(refine aM h λw h=>?_)
       |(refine ac ?_)
       |(refine aw h rfl ?_)
       |(refine ah h rfl ?_)
       |(refine aO h ?_)
       |(refine aN h rfl ?_)
       |(refine az h (by rfl) λw h=>?_)
       |(refine aD h λn w h=>?_)
       |(refine aT h λw h=>?_)
       |(refine bh h rfl λw h=>?_;dsimp only[dE,over]at h))
      exact(au.rA (h.dQ (b:=b) (L':=(ad.db nw (({wB v {x with on:=true,kj:=0,rd:=false}with set:=false})))) (by simp)) {wB v {x with on:=true,kj:=0,rd:=false}with set:=false} ⟨rfl,rfl,(λ_=>⟨by simp,λhh=>by cases hh⟩),rfl⟩).br
     rw[ay (by rw[c];simp)];refine ac (ah h rfl ?_);refine ae (λc2=>?_) λc2=>?_
     ·have c2:v.m.b.on=false:=(by rw[←eon];simpa using c2);rw[ay (by rw[c2];simp)];exact(h.rA (wB v x) ⟨rfl,rfl,hR2,rfl⟩).br
     have c2:v.m.b.on=true:=(by rw[←eon];simpa using c2);rw[aG c2];obtain⟨r1,r2⟩:=hR2 (eon.trans c2);refine ac (ah h rfl ?_);unfold CE;refine ae (λc3=>?_) λc3=>?_
     ·have c3:v.set=false:=(by simpa using c3);have e3:x.kj=0:=by
       have r1:v.set=decide (x.kj≠0):=r1;rw[c3]at r1;simpa using r1.symm
      rw[aG e3];refine ae (λc4=>?_) λc4=>?_
      ·rw[aG (bV c4)];repeat' (first
        |(refine aM h λw h=>?_)
        |(refine ac ?_)
        |(refine aw h rfl ?_)
        |(refine ah h rfl ?_)
        |(refine aO h ?_)
        |(refine aN h rfl ?_)
        |(refine az h (by rfl) λw h=>?_)
        |(refine aD h λn w h=>?_)
        |(refine aT h λw h=>?_)
        |(refine bh h rfl λw h=>?_;dsimp only[dE,over]at h)
        |(refine ar (fP aj 200000000 hn (bm _)) h λr w h=>?_;obtain⟨hr,h⟩:=h.aP;(try dsimp only at hr h);try rw[hr]))
       have e4:bJ aj 200000000≠0:=by
        have:=hn.1;unfold bJ;split<;>omega
       exact(au.rA (h.dQ (b:=b) (L':=(ad.db nw (({wB v {x with kj:=bJ aj 200000000,rd:=false}with set:=true,pN:=bJ aj 200000000})))) (by simp)) {wB v {x with kj:=bJ aj 200000000,rd:=false}with set:=true,pN:=bJ aj 200000000} ⟨rfl,rfl,(λ_=>⟨by simp[e4],λ_=>rfl⟩),rfl⟩).br
      ·rw[ay (bY c4)];exact(h.rA (wB v x) ⟨rfl,rfl,hR2,rfl⟩).br
     have c3:v.set=true:=(by simpa using c3);have e3:x.kj≠0:=by
      have r1:v.set=decide (x.kj≠0):=r1;rw[c3]at r1;simpa using r1.symm
     have e5:v.pN=x.kj:=r2 c3;rw[ay e3];repeat' (first
      |(refine aM h λw h=>?_)
      |(refine ac ?_)
      |(refine aw h rfl ?_)
      |(refine ah h rfl ?_)
      |(refine aO h ?_)
      |(refine aN h rfl ?_)
      |(refine az h (by rfl) λw h=>?_)
      |(refine aD h λn w h=>?_)
      |(refine aT h λw h=>?_)
      |(refine bh h rfl λw h=>?_;dsimp only[dE,over]at h))
     refine aQ h (λ_=>af b (ad.db nw ((wB v {x with rd:=x.rd||st})))) (λy:Bool=>y=((x.rd||st)&&decide (aj>x.kj))) (λ(y:Bool) w hy h=>?_) ?_
     ·rw[hy];refine ae (λc4=>?_) λc4=>?_
      ·simp only[d_,iZ]at c4;rw[ay (by rw[c4.1];simp),ay (by omega)];repeat' (first
        |(refine aM h λw h=>?_)
        |(refine ac ?_)
        |(refine aw h rfl ?_)
        |(refine ah h rfl ?_)
        |(refine aO h ?_)
        |(refine aN h rfl ?_)
        |(refine az h (by rfl) λw h=>?_)
        |(refine aD h λn w h=>?_)
        |(refine aT h λw h=>?_)
        |(refine bh h rfl λw h=>?_;dsimp only[dE,over]at h))
       exact(au.rA (h.dQ (b:=b) (L':=(ad.db nw (({wB v {x with rd:=x.rd||st,lg:=aj,on:=false}with set:=false})))) (by simp)) {wB v {x with rd:=x.rd||st,lg:=aj,on:=false}with set:=false} ⟨rfl,rfl,(λhh=>by cases hh),rfl⟩).br
      ·have hR3:Rel (wB v {x with rd:=x.rd||st}):=λhh=>hR2 hh;by_cases c5:(x.rd||st)=true
       ·rw[ay (by rw[c5];simp),aG (by rw[c5]at c4;simp at c4;omega)];exact(h.rA (wB v {x with rd:=x.rd||st}) ⟨rfl,rfl,hR3,rfl⟩).br
       ·rw[aG (by simpa using c5)];exact(h.rA (wB v {x with rd:=x.rd||st}) ⟨rfl,rfl,hR3,rfl⟩).br
     ·repeat' (first
       |(refine aM h λw h=>?_)
       |(refine ac ?_)
       |(refine aw h rfl ?_)
       |(refine ah h rfl ?_)
       |(refine aO h ?_)
       |(refine aN h rfl ?_)
       |(refine az h (by rfl) λw h=>?_)
       |(refine aD h λn w h=>?_)
       |(refine aT h λw h=>?_)
       |(refine bh h rfl λw h=>?_;dsimp only[dE,over]at h)
       |(refine ae (λc=>?_) λc=>?_))
      ·have c:(x.rd||st)=true:=c;exact⟨by rw[c,e5];rfl,(h.dQ (b:=b) (L':=(ad.db nw ((wB v {x with rd:=x.rd||st})))) (by simp)).aI⟩
      ·have c:(x.rd||st)=false:=c;exact⟨by rw[c];rfl,(h.dQ (b:=b) (L':=(ad.db nw ((wB v {x with rd:=x.rd||st})))) (by simp)).aI⟩
    ·refine ae (λc=>?_) λc=>?_
     ·refine ac (ah h rfl ?_);exact⟨by rw[c,eon];rfl,h⟩
     ·exact⟨by rw[c];rfl,h⟩
   ·refine aQ h (λ_=>af b (ad.db nw v)) (λy:Bool=>y=yZ v.m.b aj bT) (λ(y:Bool) w hy h=>?_) ?_
    ·rw[hy];unfold lR;refine ae (λc=>?_) λc=>?_
     ·rw[aG c];repeat' (first
       |(refine aM h λw h=>?_)
       |(refine ac ?_)
       |(refine aw h rfl ?_)
       |(refine ah h rfl ?_)
       |(refine aO h ?_)
       |(refine aN h rfl ?_)
       |(refine az h (by rfl) λw h=>?_)
       |(refine aD h λn w h=>?_)
       |(refine aT h λw h=>?_)
       |(refine bh h rfl λw h=>?_;dsimp only[dE,over]at h))
      exact⟨trivial,(h.dQ (b:=b) (L':=(ad.db nw ((wB v {v.m.b with dy:=bT,lg:=aj})))) (by simp)).aI⟩
     ·rw[ay (by rw[c];simp)];exact⟨trivial,h⟩
    ·repeat' (first
      |(refine aM h λw h=>?_)
      |(refine ac ?_)
      |(refine aw h rfl ?_)
      |(refine ah h rfl ?_)
      |(refine aO h ?_)
      |(refine aN h rfl ?_)
      |(refine az h (by rfl) λw h=>?_)
      |(refine aD h λn w h=>?_)
      |(refine aT h λw h=>?_)
      |(refine bh h rfl λw h=>?_;dsimp only[dE,over]at h)
      |(refine ae (λc=>?_) λc=>?_))
     all_goals refine⟨?_,h.aI⟩
     all_goals simp_all[yZ]
     all_goals(intro _;omega)
  ·refine ac (ah h rfl (ae (λc=>?_) λc=>?_))
   ·refine ac (ah h rfl (aK (fP v.m.b.lg 10000000000 hv.lg (bm _)) h λw h=>?_));exact⟨by unfold Bl;rw[c];rfl,h.aI⟩
   ·exact⟨by unfold Bl;rw[c];rfl,h⟩
abbrev wQ(v:Rm)(x:Pl):Rm:={v with m:={v.m with q:=x}}
theorem xx(b nw v):bu (Mh (some ⟨b,15⟩)) (af b (ad.db nw v)) (λ_=>af b (ad.db nw ((wQ v {v.m.q with vd:=false,bw:=0})))):=
 bC λw0 S R h=>by
  repeat' (first
   |(refine aM h λw h=>?_)
   |(refine ac ?_)
   |(refine aw h rfl ?_)
   |(refine ah h rfl ?_)
   |(refine aO h ?_)
   |(refine aN h rfl ?_)
   |(refine az h (by rfl) λw h=>?_)
   |(refine aD h λn w h=>?_)
   |(refine aT h λw h=>?_)
   |(refine bh h rfl λw h=>?_;dsimp only[dE,over]at h))
  exact(h.dQ (b:=b) (L':=(ad.db nw ((wQ v {v.m.q with vd:=false,bw:=0})))) (by simp)).aI
theorem AC(b nw v s):bu (Qx (some ⟨b,15⟩) s) (af b (ad.db nw v)) (λ_=>af b (ad.db nw ((wQ v (lr v.m.q s))))):=
 bC λw0 S R h=>by
  repeat' (first
   |(refine aM h λw h=>?_)
   |(refine ac ?_)
   |(refine aw h rfl ?_)
   |(refine ah h rfl ?_)
   |(refine aO h ?_)
   |(refine aN h rfl ?_)
   |(refine az h (by rfl) λw h=>?_)
   |(refine aD h λn w h=>?_)
   |(refine aT h λw h=>?_)
   |(refine bh h rfl λw h=>?_;dsimp only[dE,over]at h))
  exact(h.dQ (b:=b) (L':=(ad.db nw ((wQ v (lr v.m.q s))))) (by simp[lr])).aI
theorem K5(a c:Int)(ha:U a)(hc:U c):bu (Vr a c) bg (λr=>bs (r=decide (apart a c≤a/8)) bg):=
 bC λw0 S R h=>by
  refine au.aH ?_ h;unfold U at ha hc;have e1:u64.wrap ((if c>a then c else a)-(if c<a then c else a))=apart a c:=by
   unfold apart;rw[wu (by(repeat' split)<;>omega) (by(repeat' split)<;>omega)]
   (repeat' split)<;>omega
  have e2:u64.wrap (a.tdiv (8:Int))=a/8:=by rw[mD ha.1,ja]
  rw[e1,e2]
theorem PZ{a b:Int}(ha:U a)(hb:U b):u64.wrap ((u64.wrap ((u64.wrap (a.tdiv (2:Int)))+(u64.wrap (b.tdiv (2:Int)))))+(u64.wrap ((u64.wrap ((a.tmod (2:Int))+(b.tmod (2:Int)))).tdiv (2:Int))))=JO a b:=by
 unfold U at ha hb;rw[mD ha.1,mD hb.1,FC ha.1,FC hb.1];have e:u64.wrap (a%2+b%2)=a%2+b%2:=ja;rw[e,mD (by omega)];unfold JO;simp only[wm];omega
theorem K1(b nw v)(hv:ry v.m.q)(s)(hs:oi s):bu (UY (some ⟨b,15⟩) s) (af b (ad.db nw v)) (λ_=>af b (ad.db nw ((wQ v (tP v.m.q s))))):=
 bC λw0 S R h=>by
  have hd:=nB hs.del hv.d0;have ht:=nB hs.aj hv.t0;have hl:=nB hv.bo hv.l0;refine aD h λn1 w h=>?_;repeat' (first
   |(refine aM h λw h=>?_)
   |(refine ac ?_)
   |(refine aw h rfl ?_)
   |(refine ah h rfl ?_)
   |(refine aO h ?_)
   |(refine aN h rfl ?_)
   |(refine az h (by rfl) λw h=>?_)
   |(refine aD h λn w h=>?_)
   |(refine aT h λw h=>?_)
   |(refine bh h rfl λw h=>?_;dsimp only[dE,over]at h)
   |(refine ar (ke _ _ hs.del hv.d0) h λr w h=>?_;obtain⟨hr,h⟩:=h.aP;(try dsimp only at hr h);try rw[hr])
   |(refine ar (ke _ _ hv.bo hv.l0) h λr w h=>?_;obtain⟨hr,h⟩:=h.aP;(try dsimp only at hr h);try rw[hr])
   |(refine ar (ke _ _ hs.aj hv.t0) h λr w h=>?_;obtain⟨hr,h⟩:=h.aP;(try dsimp only at hr h);try rw[hr]))
  refine aQ h (λ_=>af n1 (Ks.mk aW s)^af b (ad.db nw v)) (λ_=>oB v.m.q s=some (qN (dX (gO s) v.m.q.d0) 1000000000 (dX (iT s) v.m.q.t0))) (λ_ w hm h=>?_) ?_
  ·have hU:=Gf hv hs hm;have e:tP v.m.q s=xh v.m.q s (qN (dX (gO s) v.m.q.d0) 1000000000 (dX (iT s) v.m.q.t0)):=(by unfold tP;rw[hm]);rw[e];repeat' (first
    |(refine aM h λw h=>?_)
    |(refine ac ?_)
    |(refine aw h rfl ?_)
    |(refine ah h rfl ?_)
    |(refine aO h ?_)
    |(refine aN h rfl ?_)
    |(refine az h (by rfl) λw h=>?_)
    |(refine aD h λn w h=>?_)
    |(refine aT h λw h=>?_)
    |(refine bh h rfl λw h=>?_;dsimp only[dE,over]at h)
    |(refine ar (nY _ _ _ hd (bm 1000000000) ht) h λr w h=>?_;obtain⟨hr,h⟩:=h.aP;(try dsimp only at hr h);try rw[hr]))
   generalize qN (dX (gO s) v.m.q.d0) 1000000000 (dX (iT s) v.m.q.t0)=x at*
   have h:au _ _ _ _ (af n1 (Ks.mk aW s)^af b (ad.db nw v)):=h.aI;refine aQ h (λ_=>af n1 (Ks.mk aW s)^af b (ad.db nw v)) (λy:Bool=>y=decide (v.m.q.bw>0∧apart v.m.q.bw x≤v.m.q.bw/8)) (λ(y:Bool) w hy h=>?_) ?_
   ·rw[hy];refine ae (λc=>?_) λc=>?_
    ·have c:v.m.q.bw>0∧apart v.m.q.bw x≤v.m.q.bw/8:=cC;have e:xh v.m.q s x={v.m.q with bw:=JO v.m.q.bw x,jh:=true,n:=0}:=(by unfold xh;rw[aG c]);rw[e];have ea:=PZ hv.bw hU;refine aM h λw h=>ac (ac (ah h rfl (ah h rfl ?_)));dsimp only;rw[ea];repeat' (first
      |(refine aM h λw h=>?_)
      |(refine ac ?_)
      |(refine aw h rfl ?_)
      |(refine ah h rfl ?_)
      |(refine aO h ?_)
      |(refine aN h rfl ?_)
      |(refine az h (by rfl) λw h=>?_)
      |(refine aD h λn w h=>?_)
      |(refine aT h λw h=>?_)
      |(refine bh h rfl λw h=>?_;dsimp only[dE,over]at h))
     exact(h.dQ (b:=b) (L':=(ad.db nw ((wQ v {v.m.q with bw:=JO v.m.q.bw x,jh:=true,n:=0})))) (by simp)).aI
    ·have c:¬(v.m.q.bw>0∧apart v.m.q.bw x≤v.m.q.bw/8):=cC;have e:xh v.m.q s x=lr {v.m.q with bw:=x} s:=(by unfold xh;rw[ay c]);rw[e];refine ac (bh h rfl λw h=>?_);have h:=(h.dQ (b:=b) (L':=(ad.db nw ((wQ v {v.m.q with bw:=x})))) (by simp[dE,over]));have h:au _ _ _ _ (af n1 (Ks.mk aW s)^af b (ad.db nw ((wQ v {v.m.q with bw:=x})))):=h.aI;refine aw (x:=s) h rfl ?_;refine ar (AC b nw (wQ v {v.m.q with bw:=x}) s) h λ_ w h=>?_;exact h.aI
   ·refine ac (ah h rfl (ae (λc=>?_) λc=>?_))
    ·refine ac (ah h rfl (ar (K5 v.m.q.bw x hv.bw hU) h λr w h=>?_));obtain⟨hr,h⟩:=h.aP;have c:v.m.q.bw>0:=bV c;exact⟨by rw[hr];simp[c],h.aI⟩
    ·have c:¬v.m.q.bw>0:=bY c;exact⟨by simp[c],h.aI⟩
  ·refine ae (λc=>?_) λc=>?_
   ·have c:dX (gO s) v.m.q.d0=0∨dX (iT s) v.m.q.t0=0:=cC;have e:tP v.m.q s=v.m.q:=(by unfold tP oB;rw[aG c]);rw[e];exact h.aI
   have c:¬(dX (gO s) v.m.q.d0=0∨dX (iT s) v.m.q.t0=0):=cC;refine aK (nY _ _ _ hd (bm 50) (bm 256)) h λw h=>?_;refine ae (λc2=>?_) λc2=>?_
   ·have e:tP v.m.q s=v.m.q:=(by unfold tP oB;rw[ay c,aG (bV c2)]);rw[e];exact h.aI
   ·exact⟨by unfold oB;rw[ay c,ay (bY c2)],h.aI⟩
theorem K2(b nw v)(hv:ry v.m.q)(o s)(hs:oi s):bu (Ur (some ⟨b,15⟩) o s) (af b (ad.db nw v)) (λ_=>af b (ad.db nw ((wQ v (yk v.m.q o s))))):=
 bC λw0 S R h=>by
  refine aD h λn1 w h=>?_;repeat' (first
   |(refine aM h λw h=>?_)
   |(refine ac ?_)
   |(refine aw h rfl ?_)
   |(refine ah h rfl ?_)
   |(refine aO h ?_)
   |(refine aN h rfl ?_)
   |(refine az h (by rfl) λw h=>?_)
   |(refine aD h λn w h=>?_)
   |(refine aT h λw h=>?_)
   |(refine bh h rfl λw h=>?_;dsimp only[dE,over]at h)
   |(refine ar (fP _ _ hv.bo hs.bo) h λr w h=>?_;obtain⟨hr,h⟩:=h.aP;(try dsimp only at hr h);try rw[hr]))
  have hq1:=hv.add hs;have hdef:yk v.m.q o s=if(ml v.m.q s).jh=false∧(ml v.m.q s).vd=false then(if gT s>0 then lr (ml v.m.q s) s else ml v.m.q s)
    else if(ml v.m.q s).jh=false∧rG s=true then gH (ml v.m.q s)else Dh (gy (ml v.m.q s) o) o s:=rfl
  rw[hdef];have h:=(h.dQ (b:=b) (L':=(ad.db nw ((wQ v (ml v.m.q s))))) (by simp[ml]));have e1:v.m.q.jh=(ml v.m.q s).jh:=rfl;have e2:v.m.q.vd=(ml v.m.q s).vd:=rfl;rw[e1];generalize ml v.m.q s=u at*
  have h:au _ _ _ _ (af n1 (Ks.mk aW s)^af b (ad.db nw ((wQ v u)))):=h.aI;have hn:=hq1.n;have htick:∀(w:World),au w0 S R w (af n1 (Ks.mk aW s)^af b (ad.db nw ((wQ v u))))→∀K:WP,(∀w,au w0 S R w (af n1 (Ks.mk aW s)^af b (ad.db nw ((wQ v (gy u o)))))→K w)→
    aq o (aC (some ⟨b,15⟩) λq11=>ld [.int .i64] ⟨q11.b,q11.o+3⟩ λ(x12:Int)=>aC (some ⟨b,15⟩) λq13=>st ⟨q13.b,q13.o+3⟩ [aE (i64.wrap (x12+(1:Int)))]<|K) K w:=by
   intro w h K hK;refine ae (λc=>?_) λc=>?_
   ·refine ac (ah h rfl (ac ?_));dsimp only;rw[gi (n:=u.n+1)];refine bh h rfl λw h=>hK w ?_;have h:=(h.dQ (b:=b) (L':=(ad.db nw ((wQ v (gy u o))))) (by rw[c];simp[gy,dE,over]));exact h.aI
   ·have e:gy u o=u:=(by unfold gy;rw[c];rfl);exact hK w (by rw[e];exact h)
  refine ae (λc=>?_) λc=>?_
  ·have c:u.jh=true:=c;rw[ay (by rw[c];simp),ay (by rw[c];simp)];have hnu:=hq1.nu c;refine aQ h (λ_=>af n1 (Ks.mk aW s)^af b (ad.db nw ((wQ v (gy u o))))) (λ_=>True) (λ_ w _ h=>?_) (htick _ h _ λw h=>⟨trivial,h⟩);have hu2:(gy u o).jh=true:=(by cases o<;>exact c);unfold Dh;rw[aG hu2];refine ac (ah h rfl (ae (λc2=>?_) λc2=>?_))
   ·have c2:(gy u o).n≥48:=bV c2;have hq:o=true∧(gy u o).n=48:=by
     cases o with
     |false=>exfalso;have c2:u.n≥48:=c2;omega
     |true=>exact⟨rfl,by have c2:u.n+1≥48:=c2;show u.n+1=48;omega⟩
    rw[aG hq];generalize gy u o=x at*
    have e9:({gH x with n:=0}:Pl)=⟨false,false,0,0,x.bo,x.t0,x.d0,x.l0⟩:=rfl;rw[e9];repeat' (first
     |(refine aM h λw h=>?_)
     |(refine ac ?_)
     |(refine aw h rfl ?_)
     |(refine ah h rfl ?_)
     |(refine aO h ?_)
     |(refine aN h rfl ?_)
     |(refine az h (by rfl) λw h=>?_)
     |(refine aD h λn w h=>?_)
     |(refine aT h λw h=>?_)
     |(refine bh h rfl λw h=>?_;dsimp only[dE,over]at h))
    have h:=(h.dQ (b:=b) (L':=(ad.db nw ((wQ v {x with jh:=false,n:=0})))) (by simp));refine ar (xx b nw (wQ v {x with jh:=false,n:=0})) h λ_ w h=>?_;exact h.aI
   ·have c2:¬(gy u o).n≥48:=bY c2;rw[ay (by omega)];exact h.aI
  have c:u.jh=false:=c;refine ac (ah h rfl (ae (λc2=>?_) λc2=>?_))
  ·have c2:u.vd=false:=gK;rw[aG ⟨c,c2⟩];refine ah h rfl (ae (λc3=>?_) λc3=>?_)
   ·rw[aG (bV c3)];refine aw (x:=s) h rfl ?_;refine ar (AC b nw (wQ v u) s) h λ_ w h=>?_;exact h.aI
   ·rw[ay (bY c3)];exact h.aI
  have c2:u.vd=true:=gK;rw[ay (by rw[c2];simp)];have hlv:gH u={u with vd:=false,bw:=0}:=by unfold gH;rw[←c]
  refine ah h rfl (ae (λc3=>?_) λc3=>?_)
  ·rw[aG ⟨c,c3⟩,hlv];refine ar (xx b nw (wQ v u)) h λ_ w h=>?_;exact h.aI
  rw[ay (by rw[show rG s=false from c3];simp)];refine aQ h (λ_=>af n1 (Ks.mk aW s)^af b (ad.db nw ((wQ v (gy u o))))) (λ_=>True) (λ_ w _ h=>?_) (htick _ h _ λw h=>⟨trivial,h⟩);have hu2:(gy u o).jh=false:=by cases o<;>exact c
  have tk:=Jq.Jg hq1 o;unfold Dh;rw[ay (by rw[hu2];simp)];have hlv:gH (gy u o)={gy u o with vd:=false,bw:=0}:=by unfold gH;rw[←hu2]
  generalize gy u o=x at*
  refine ac (ah h rfl (ae (λc4=>?_) λc4=>?_))
  ·rw[aG (bV c4),hlv];refine ar (xx b nw (wQ v x)) h λ_ w h=>?_;exact h.aI
  have c4:¬x.n>16:=bY c4;rw[ay c4];refine aQ h (λ_=>af n1 (Ks.mk aW s)^af b (ad.db nw ((wQ v x)))) (λy:Bool=>y=decide (x.n≥4∧gT s>0)) (λ(y:Bool) w hy h=>?_) ?_
  ·rw[hy];refine ae (λc5=>?_) λc5=>?_
   ·rw[aG (bV c5)];refine aw (x:=s) h rfl ?_;refine ar (K1 b nw (wQ v x) (tk (λ_=>by omega) hu2) s hs) h λ_ w h=>?_;exact h.aI
   ·rw[ay (bY c5)];exact h.aI
  ·refine ac (ah h rfl (ae (λc5=>?_) λc5=>?_))
   ·have c5:x.n≥4:=bV c5;exact ah h rfl ⟨by rw[jG];simp[c5],h⟩
   ·have c5:¬x.n≥4:=bY c5;exact⟨by simp[c5],h⟩
end yb

namespace Eh
open bH bp _root_.Go.X.Target gM fK PI yb
abbrev wM(v:Rm)(m:Md):Rm:={v with m:=m}
theorem CV(h:100≤m.bt∧m.bt≤9000):u64.wrap (4*m.bt)=jw m:=ja
theorem P0(b)(aj bT fl floor:Int)(st)(h:(bU b aj bT st fl floor).1.1=true):(bU b aj bT st fl floor).1.2=false:=by
 unfold bU at*
 split
 ·rfl
 ·rename_i h1;rw[ay h1]at h;split at h<;>cases h
def I5(m:Md)(s:Sm)(o:Bool):Md:=mz (tm (rD (kG (iD m s) o s)) s) s o
theorem RP(b nw n1:Nat)(v:Rm)(hv:gr v.m)(hR:Rel v)(s:Sm)(hs:oi s)(h:au w0 S R w (af n1 (Ks.mk aW s)^af b (ad.db nw v)^af nw (ad.eg v.m.w)))(k:∀w,au w0 S R w (af n1 (Ks.mk aW s)^af b (ad.db nw ((wM v (iD v.m s))))^af nw (ad.eg ((wM v (iD v.m s)).m.w)))→K w):
  join [] (λJ4=>join [.bool] (λJ6=>
 aC (some ⟨b,0⟩) λq8=>
 ld [.int .i64] ⟨q8.b,q8.o+23⟩ λ(x9:Int)=>
 aq (x9==(2:Int)) (
 aC (some ⟨b,0⟩) λq10=>
 ld [.bool] ⟨q10.b,q10.o+15⟩ λ(x11:Bool)=>
 J6 (!x11))<|
 J6 false) λ(y7:Bool)=>
 aq y7 (
 bR<|
 aC (some ⟨b,0⟩) λq12=>
 ld [.int .u64] ⟨n1,0⟩ λ(x13:Int)=>
 ld [.int .u64] ⟨n1,6⟩ λ(x14:Int)=>
 ld [.int .u64] ⟨n1,7⟩ λ(x15:Int)=>
 call Tryz.prog gk [.lf (.ptr (some ⟨b,0⟩))] [.lf (.int .u64)] λ(r16:Int)=>
 ct ⟨n1,7⟩ (Ks.mk [.int .u64] x15)<|
 ct ⟨n1,6⟩ (Ks.mk [.int .u64] x14)<|
 ct ⟨n1,0⟩ (Ks.mk [.int .u64] x13)<|
 call Tryz.prog oN [.lf (.int .u64 r16),.lf (.int .u64 v.m.b.dy),.lf (.int .u64 (320:Int))] [.lf (.int .u64)] λ(r17:Int)=>
 ct ⟨n1,7⟩ (Ks.mk [.int .u64] x15)<|
 ct ⟨n1,6⟩ (Ks.mk [.int .u64] x14)<|
 ct ⟨n1,0⟩ (Ks.mk [.int .u64] x13)<|
 call Tryz.prog gk [.lf (.ptr (some ⟨b,0⟩))] [.lf (.int .u64)] λ(r18:Int)=>
 ct ⟨n1,7⟩ (Ks.mk [.int .u64] x15)<|
 ct ⟨n1,6⟩ (Ks.mk [.int .u64] x14)<|
 ct ⟨n1,0⟩ (Ks.mk [.int .u64] x13)<|
 call Tryz.prog oN [.lf (.int .u64 r18),.lf (.int .u64 v.m.b.dy),.lf (.int .u64 (256:Int))] [.lf (.int .u64)] λ(r19:Int)=>
 ct ⟨n1,7⟩ (Ks.mk [.int .u64] x15)<|
 ct ⟨n1,6⟩ (Ks.mk [.int .u64] x14)<|
 ct ⟨n1,0⟩ (Ks.mk [.int .u64] x13)<|
 call Tryz.prog od [.lf (.ptr (some ⟨q12.b,q12.o+7⟩)),.lf (.int .u64 x13),.lf (.int .u64 v.m.b.dy),.lf (.int .u64 x14),.lf (.int .u64 x15),.lf (.int .u64 r17),.lf (.int .u64 r19)] [.lf .bool] λ(r20:Bool)=>
 J4 ())<|
 J4 ()) (λ_=>K) w:=by
 refine aQ h (λ_=>af n1 (Ks.mk aW s)^af b (ad.db nw ((wM v (iD v.m s))))^af nw (ad.eg ((wM v (iD v.m s)).m.w))) (λ_=>True) (λ_ w _ h=>k w h) ?_;refine aQ h (λ_=>af n1 (Ks.mk aW s)^af b (ad.db nw v)^af nw (ad.eg v.m.w)) (λy:Bool=>y=decide (v.m.mode=2∧v.m.q.jh=false)) (λ(y:Bool) w hy h=>?_) ?_
 ·rw[hy];refine ae (λc=>?_) λc=>?_
  ·have c:v.m.mode=2∧v.m.q.jh=false:=bV c;have e:iD v.m s={v.m with c:=cU v.m.c (iT s) v.m.b.dy (gT s) (kO s) (sv v.m 320) (sv v.m 256)}:=(by unfold iD;rw[aG c]);rw[e];repeat' (first
    |(refine aM h λw h=>?_)
    |(refine ac ?_)
    |(refine aw h rfl ?_)
    |(refine ah h rfl ?_)
    |(refine aO h ?_)
    |(refine aN h rfl ?_)
    |(refine az h (by rfl) λw h=>?_)
    |(refine aD h λn w h=>?_)
    |(refine aT h λw h=>?_)
    |(refine bh h rfl λw h=>?_;dsimp only[dE,over]at h)
    |(refine ar (tv b nw v) h λr w h=>?_;obtain⟨hr,h⟩:=h.aP;(try dsimp only at hr h);try rw[hr])
    |(refine ar (we _ _ _ hv.bw hv.b.dy (bm 320)) h λr w h=>?_;obtain⟨hr,h⟩:=h.aP;(try dsimp only at hr h);try rw[hr])
    |(refine ar (we _ _ _ hv.bw hv.b.dy (bm 256)) h λr w h=>?_;obtain⟨hr,h⟩:=h.aP;(try dsimp only at hr h);try rw[hr]))
   refine ar (KV b nw v hv.c (iT s) v.m.b.dy (gT s) (kO s) (sv v.m 320) (sv v.m 256) hs.aj) h λr w h=>?_;exact⟨trivial,h.aI⟩
  ·have c:¬(v.m.mode=2∧v.m.q.jh=false):=bY c;have e:iD v.m s=v.m:=(by unfold iD;rw[ay c]);rw[e];exact⟨trivial,h⟩
 ·repeat' (first
   |(refine aM h λw h=>?_)
   |(refine ac ?_)
   |(refine aw h rfl ?_)
   |(refine ah h rfl ?_)
   |(refine aO h ?_)
   |(refine aN h rfl ?_)
   |(refine az h (by rfl) λw h=>?_)
   |(refine aD h λn w h=>?_)
   |(refine aT h λw h=>?_)
   |(refine bh h rfl λw h=>?_;dsimp only[dE,over]at h)
   |(refine ae (λc=>?_) λc=>?_))
  ·have c:v.m.mode=2:=cC;exact⟨by cases hh:v.m.q.jh<;>simp[c],h⟩
  ·have c:¬v.m.mode=2:=cC;exact⟨by simp[c],h⟩
theorem Ta(b nw n1 v s)(h:au w0 S R w (af n1 (Ks.mk aW s)^af b (ad.db nw v)^af nw (ad.eg v.m.w)))(k:∀w,au w0 S R w (af n1 (Ks.mk aW s)^af b (ad.db nw ((wM v (eW v.m (iT s)))))^af nw (ad.eg ((wM v (eW v.m (iT s))).m.w)))→K w):
  (aC (some ⟨b,0⟩) λq46=>
 st ⟨q46.b,q46.o+23⟩ [aE (2:Int)]<|
 bR<|
 aC (some ⟨b,0⟩) λq47=>
 ld [.int .u64] ⟨n1,0⟩ λ(x48:Int)=>
 call Tryz.prog oG [.lf (.ptr (some ⟨q47.b,q47.o+7⟩)),.lf (.int .u64 x48),.lf (.int .i64 (2:Int))] [] λ(r49:Unit)=>
 K) w:=by
 repeat' (first
  |(refine aM h λw h=>?_)
  |(refine ac ?_)
  |(refine aw h rfl ?_)
  |(refine ah h rfl ?_)
  |(refine aO h ?_)
  |(refine aN h rfl ?_)
  |(refine az h (by rfl) λw h=>?_)
  |(refine aD h λn w h=>?_)
  |(refine aT h λw h=>?_)
  |(refine bh h rfl λw h=>?_;dsimp only[dE,over]at h))
 have h:=(h.dQ (b:=b) (L':=(ad.db nw ((wM v {v.m with mode:=2})))) (by simp));have h:au _ _ _ _ (af n1 (Ks.mk aW s)^af b (ad.db nw ((wM v {v.m with mode:=2})))^af nw (ad.eg ((wM v {v.m with mode:=2}).m.w))):=h.aI;refine ar (FI b nw (wM v {v.m with mode:=2}) (iT s) 2 (by omega)) h λr w h=>?_;exact k w h.aI
theorem HO(b nw:Nat)(v:Rm)(hv:gr v.m)(hR:Rel v)(o:Bool)(s:Sm)(hs:oi s):bu (Ut (some ⟨b,0⟩) s o) (af b (ad.db nw v)^af nw (ad.eg v.m.w))
  (λ_=>xQ (λu:Rm=>u.m=I5 v.m s o∧Rel u∧u.g=v.g) (λu=>af b (ad.db nw u)^af nw (ad.eg u.m.w))):=
 bC λw0 S R h=>by
  refine aD h λn1 w h=>?_;refine ac (ah h rfl ?_);have h:au w0 S R w (af n1 (Ks.mk aW s)^af b (ad.db nw v)^af nw (ad.eg v.m.w)):=h;refine RP b nw n1 v hv hR s hs h λw h=>?_;have hdef:I5 v.m s o=mz (tm (rD (kG (iD v.m s) o s)) s) s o:=rfl;rw[hdef];have hb1:(iD v.m s).b=v.m.b:=by unfold iD;split<;>rfl
  have ok1:=hv.XR hs;have hbest:v.m.b.dy=(iD v.m s).b.dy:=by rw[hb1]
  have hR1:Rel (wM v (iD v.m s)):=λhh=>by
   have:=hR (by rw[←hb1];exact hh);show v.set=decide ((iD v.m s).b.kj≠0)∧(v.set=true→v.pN=(iD v.m s).b.kj);rw[hb1];exact this
  try dsimp only
  rw[hbest];have e0:wM v (iD v.m s)=wM v (iD v.m s):=rfl;generalize hm1:iD v.m s=m1 at*
  clear hm1 hdef e0;repeat' (first
   |(refine aM h λw h=>?_)
   |(refine ac ?_)
   |(refine aw h rfl ?_)
   |(refine ah h rfl ?_)
   |(refine aO h ?_)
   |(refine aN h rfl ?_)
   |(refine az h (by rfl) λw h=>?_)
   |(refine aD h λn w h=>?_)
   |(refine aT h λw h=>?_)
   |(refine bh h rfl λw h=>?_;dsimp only[dE,over]at h))
  refine⟨by decide,ah h rfl ?_⟩;refine ar (K6 b nw (wM v m1) ok1.p o (rG s) m1.w.v0) h λr w h=>?_;have ok2:gr (kG m1 o s):=ok1.pipe;have hR2:Rel (wM v (kG m1 o s)):=hR1;have hbest:m1.b.dy=(kG m1 o s).b.dy:=rfl;rw[hbest];have h:au w0 S R w (af n1 (Ks.mk aW s)^af b (ad.db nw ((wM v (kG m1 o s))))^af nw (ad.eg ((wM v (kG m1 o s)).m.w))):=h.aI;generalize kG m1 o s=m2 at*
  clear hR1 ok1 hbest;have b3:(rD m2).b=m2.b:=by unfold rD;split<;>rfl
  have ok3:=ok2.m1;refine aQ h (λ_=>af n1 (Ks.mk aW s)^af b (ad.db nw ((wM v (rD m2))))^af nw (ad.eg ((wM v (rD m2)).m.w))) (λ_=>True) (λ_ w _ h=>?_) ?_
  ·have hR3:Rel (wM v (rD m2)):=λhh=>by
    have:=hR2 (by rw[←b3];exact hh);show v.set=decide ((rD m2).b.kj≠0)∧(v.set=true→v.pN=(rD m2).b.kj);rw[b3];exact this
   rw[←b3];generalize rD m2=m3 at*
   clear b3 ok2 hR2;have ok4:=ok3.m2 hs;have b4:(tm m3 s).b=m3.b:=by unfold tm;split<;>rfl
   refine aQ h (λ_=>af n1 (Ks.mk aW s)^af b (ad.db nw ((wM v (tm m3 s))))^af nw (ad.eg ((wM v (tm m3 s)).m.w))) (λ_=>True) (λ_ w _ h=>?_) ?_
   ·have hR4:Rel (wM v (tm m3 s)):=λhh=>by
     have:=hR3 (by rw[←b4];exact hh);show v.set=decide ((tm m3 s).b.kj≠0)∧(v.set=true→v.pN=(tm m3 s).b.kj);rw[b4];exact this
    generalize tm m3 s=m4 at*
    clear b4 ok3 hR3;repeat' (first
     |(refine aM h λw h=>?_)
     |(refine ac ?_)
     |(refine aw h rfl ?_)
     |(refine ah h rfl ?_)
     |(refine aO h ?_)
     |(refine aN h rfl ?_)
     |(refine az h (by rfl) λw h=>?_)
     |(refine aD h λn w h=>?_)
     |(refine aT h λw h=>?_)
     |(refine bh h rfl λw h=>?_;dsimp only[dE,over]at h))
    have ef:=CV (m:=m4) ok4.bt;have ef:u64.wrap ((4:Int)*(wM v m4).m.bt)=jw m4:=ef;rw[ef];refine ar (HS b nw (wM v m4) ok4.b hR4 (iT s) (OP s) (kO s) (jw m4) o hs.aj hs.bT) h λr w h=>?_;obtain⟨u,⟨hr,hu,hRu,hg⟩,h⟩:=h.uQ;have hx:=P0 m4.b (iT s) (OP s) (kO s) (jw m4) o;have hu:u.m={m4 with b:=(Bc m4 s o).2}:=hu;have hr:r=(Bc m4 s o).1:=hr;have hx:(Bc m4 s o).1.1=true→(Bc m4 s o).1.2=false:=hx;have hdef:mz m4 s o=iE u.m r (iT s):=(by rw[hu,hr];rfl);rw[hdef];rw[←hr]at hx;have hw:u.m.w=m4.w:=(by rw[hu]);have h:au w0 S R w (af b (ad.db nw u)^af n1 (Ks.mk aW s)^af nw (ad.eg m4.w)):=h.aI;rw[←hw]at h;have h:au w0 S R w (af n1 (Ks.mk aW s)^af b (ad.db nw u)^af nw (ad.eg u.m.w)):=h.aI;clear hu hr hdef hR4 hw;rw[←hg];clear hg;refine aQ h (λ_=>af n1 (Ks.mk aW s)^af b (ad.db nw ((if r.1=true then wM u {u.m with gP:=if u.m.cN>u.m.gP then u.m.cN else u.m.gP,mode:=3}else u)))^af nw (ad.eg ((if r.1=true then wM u {u.m with gP:=if u.m.cN>u.m.gP then u.m.cN else u.m.gP,mode:=3}else u).m.w))) (λ_=>True) (λ_ w _ h=>?_) ?_
    ·unfold iE;by_cases hr1:r.1=true
     ·have hx:=hx hr1;rw[hx];refine ae (λc=>(by cases c)) λ_=>?_;rw[aG hr1];rw[aG hr1]at h;have h:au w0 S R w (af n1 (Ks.mk aW s)^af b (ad.db nw ((wM u {u.m with gP:=if u.m.cN>u.m.gP then u.m.cN else u.m.gP,mode:=3})))^af nw (ad.eg ((wM u {u.m with gP:=if u.m.cN>u.m.gP then u.m.cN else u.m.gP,mode:=3}).m.w))):=h;exact(h.rA (wM u {u.m with gP:=if u.m.cN>u.m.gP then u.m.cN else u.m.gP,mode:=3}) ⟨rfl,hRu,rfl⟩).br
     ·rw[ay hr1];rw[ay hr1]at h;have h:au w0 S R w (af n1 (Ks.mk aW s)^af b (ad.db nw u)^af nw (ad.eg u.m.w)):=h;refine ae (λc=>?_) λc=>?_
      ·have c:r.2=true:=c;rw[aG c];repeat' (first
        |(refine aM h λw h=>?_)
        |(refine ac ?_)
        |(refine aw h rfl ?_)
        |(refine ah h rfl ?_)
        |(refine aO h ?_)
        |(refine aN h rfl ?_)
        |(refine az h (by rfl) λw h=>?_)
        |(refine aD h λn w h=>?_)
        |(refine aT h λw h=>?_)
        |(refine bh h rfl λw h=>?_;dsimp only[dE,over]at h))
       have h:=(h.dQ (b:=b) (L':=(ad.db nw ((wM u {gw u.m with mode:=0})))) (by simp));have h:au w0 S R _ (af n1 (Ks.mk aW s)^af b (ad.db nw ((wM u {gw u.m with mode:=0})))^af nw (ad.eg ((wM u {gw u.m with mode:=0}).m.w))):=h.aI;have hR5:Rel (wM u {gw u.m with mode:=0}):=hRu;refine ae (λc=>?_) λc=>?_
       ·have c:u.m.p.full=true:=c;rw[aG c];refine Ta b nw n1 (wM u {gw u.m with mode:=0}) s h λw h=>?_;exact(h.rA (wM u (eW {gw u.m with mode:=0} (iT s))) ⟨rfl,hRu,rfl⟩).br
       ·have c:u.m.p.full=false:=c;rw[ay (by rw[c];simp)];exact(h.rA (wM u {gw u.m with mode:=0}) ⟨rfl,hRu,rfl⟩).br
      ·have c:r.2=false:=c;rw[ay (by rw[c];simp)];exact(h.rA u ⟨rfl,hRu,rfl⟩).br
    ·refine ae (λc=>?_) λc=>?_
     ·have c:r.1=true:=c;rw[aG c];repeat' (first
       |(refine aM h λw h=>?_)
       |(refine ac ?_)
       |(refine aw h rfl ?_)
       |(refine ah h rfl ?_)
       |(refine aO h ?_)
       |(refine aN h rfl ?_)
       |(refine az h (by rfl) λw h=>?_)
       |(refine aD h λn w h=>?_)
       |(refine aT h λw h=>?_)
       |(refine bh h rfl λw h=>?_;dsimp only[dE,over]at h))
      have h:=(h.dQ (b:=b) (L':=(ad.db nw ((wM u {u.m with gP:=if u.m.cN>u.m.gP then u.m.cN else u.m.gP,mode:=3})))) (by simp));exact⟨trivial,h.aI⟩
     ·have c:r.1=false:=c;rw[ay (by rw[c];simp)];exact⟨trivial,h.aI⟩
   ·refine aQ h (λ_=>af n1 (Ks.mk aW s)^af b (ad.db nw ((wM v m3)))^af nw (ad.eg ((wM v m3).m.w))) (λy:Bool=>y=decide (m3.mode=1∧m3.b.dy>0∧kO s≤sv m3 256)) (λ(y:Bool) w hy h=>?_) ?_
    ·rw[hy];refine ae (λc=>?_) λc=>?_
     ·have e:tm m3 s=eW m3 (iT s):=(by unfold tm;rw[aG (bV c)]);rw[e];exact Ta b nw n1 (wM v m3) s h λw h=>⟨trivial,h.aI⟩
     ·have e:tm m3 s=m3:=(by unfold tm;rw[ay (bY c)]);rw[e];exact⟨trivial,h⟩
    ·refine aM h λw h=>ac (ah h rfl (ae (λc=>?_) λc=>?_))
     ·have c1:m3.mode=1:=cC;refine ae (λc=>?_) λc=>?_
      ·have c2:m3.b.dy>0:=bV c;repeat' (first
        |(refine aM h λw h=>?_)
        |(refine ac ?_)
        |(refine aw h rfl ?_)
        |(refine ah h rfl ?_)
        |(refine aO h ?_)
        |(refine aN h rfl ?_)
        |(refine az h (by rfl) λw h=>?_)
        |(refine aD h λn w h=>?_)
        |(refine aT h λw h=>?_)
        |(refine bh h rfl λw h=>?_;dsimp only[dE,over]at h)
        |(refine ar (tv b nw (wM v m3)) h λr w h=>?_;obtain⟨hr,h⟩:=h.aP;(try dsimp only at hr h);try rw[hr])
        |(refine ar (we _ _ _ ok3.bw ok3.b.dy (bm 256)) h λr w h=>?_;obtain⟨hr,h⟩:=h.aP;(try dsimp only at hr h);try rw[hr]))
       exact⟨by simp[c1,c2,sv],h.aI⟩
      ·have c2:¬m3.b.dy>0:=bY c;exact⟨by simp[c2],h⟩
     ·have c1:¬m3.mode=1:=cC;exact⟨by simp[c1],h⟩
  ·refine aQ h (λ_=>af n1 (Ks.mk aW s)^af b (ad.db nw ((wM v m2)))^af nw (ad.eg ((wM v m2).m.w))) (λy:Bool=>y=decide (m2.mode=0∧m2.p.full=true)) (λ(y:Bool) w hy h=>?_) ?_
   ·rw[hy];refine ae (λc=>?_) λc=>?_
    ·have e:rD m2={m2 with mode:=1}:=(by unfold rD;rw[aG (bV c)]);rw[e];repeat' (first
      |(refine aM h λw h=>?_)
      |(refine ac ?_)
      |(refine aw h rfl ?_)
      |(refine ah h rfl ?_)
      |(refine aO h ?_)
      |(refine aN h rfl ?_)
      |(refine az h (by rfl) λw h=>?_)
      |(refine aD h λn w h=>?_)
      |(refine aT h λw h=>?_)
      |(refine bh h rfl λw h=>?_;dsimp only[dE,over]at h))
     have h:=(h.dQ (b:=b) (L':=(ad.db nw ((wM v {m2 with mode:=1})))) (by simp));exact⟨trivial,h.aI⟩
    ·have e:rD m2=m2:=(by unfold rD;rw[ay (bY c)]);rw[e];exact⟨trivial,h⟩
   ·repeat' (first
     |(refine aM h λw h=>?_)
     |(refine ac ?_)
     |(refine aw h rfl ?_)
     |(refine ah h rfl ?_)
     |(refine aO h ?_)
     |(refine aN h rfl ?_)
     |(refine az h (by rfl) λw h=>?_)
     |(refine aD h λn w h=>?_)
     |(refine aT h λw h=>?_)
     |(refine bh h rfl λw h=>?_;dsimp only[dE,over]at h)
     |(refine ae (λc=>?_) λc=>?_))
    ·have c:m2.mode=0:=cC;exact⟨by simp[c],h⟩
    ·have c:¬m2.mode=0:=cC;exact⟨by simp[c],h⟩
theorem HL(b nw v)(hv:gr v.m):bu (Uu (some ⟨b,0⟩)) (af b (ad.db nw v)^af nw (ad.eg v.m.w)) (λr=>bs (r=(fF v.m,jY v.m)) (af b (ad.db nw v)^af nw (ad.eg v.m.w))):=
 bC λw0 S R h=>by
  have hm:=hv.mode;refine ac (ah h rfl (ae (λc=>?_) λc=>?_))
  ·have c:v.m.mode=0:=cC;exact au.aH (by simp[fF,jY,c]) h
  have c0:¬v.m.mode=0:=cC;refine ae (λc=>?_) λc=>?_
  ·have c:v.m.mode=1:=cC;exact au.aH (by simp[fF,jY,c]) h
  have c1:¬v.m.mode=1:=cC;refine ae (λc=>?_) λc=>?_
  ·have c:v.m.mode=2:=cC;refine ac (ah h rfl (ae (λc2=>?_) λc2=>?_))
   ·have c2:v.m.q.jh=true:=c2;exact au.aH (by simp[fF,jY,c,c2]) h
   ·have c2:v.m.q.jh=false:=c2;refine ac (aK (RO b nw v) h λw h=>?_);exact au.aH (by simp[fF,jY,c,c2]) h.aI
  ·have c2:¬v.m.mode=2:=cC;have c3:v.m.mode=3:=(by omega);exact au.aH (by simp[fF,jY,c3]) h
def rSt(v:Rm):fK.St:=(v.m.mode,v.m.c.ph,v.m.ba,v.m.cN,zJ v.m,v.m.b.dy,v.g,v.m.r.n,v.m.p.full,v.m.q.jh)
theorem HY(b nw v):bu (Ux (some ⟨b,0⟩)) (af b (ad.db nw v)^af nw (ad.eg v.m.w)) (λr=>bs (r=rSt v) (af b (ad.db nw v)^af nw (ad.eg v.m.w))):=
 bC λw0 S R h=>by
  refine aD h λn1 w h=>?_;repeat' (first
   |(refine aM h λw h=>?_)
   |(refine ac ?_)
   |(refine aw h rfl ?_)
   |(refine ah h rfl ?_)
   |(refine aO h ?_)
   |(refine aN h rfl ?_)
   |(refine az h (by rfl) λw h=>?_)
   |(refine aD h λn w h=>?_)
   |(refine aT h λw h=>?_)
   |(refine bh h rfl λw h=>?_;dsimp only[dE,over]at h)
   |(refine ar (tv b nw v) h λr w h=>?_;obtain⟨hr,h⟩:=h.aP;(try dsimp only at hr h);try rw[hr]))
  exact au.aH rfl h.aI
theorem Ld(b nw v)(hv:gr v.m)(s)(hs:oi s)(tso:Int)(ht:U tso):bu (Uw (some ⟨b,0⟩) s tso (jY v.m)) (af b (ad.db nw v)^af nw (ad.eg v.m.w)) (λ_=>af b (ad.db nw ((wM v (eO v.m s tso))))^af nw (ad.eg ((wM v (eO v.m s tso)).m.w))):=
 bC λw0 S R h=>by
  refine aD h λn1 w h=>?_;repeat' (first
   |(refine aM h λw h=>?_)
   |(refine ac ?_)
   |(refine aw h rfl ?_)
   |(refine ah h rfl ?_)
   |(refine aO h ?_)
   |(refine aN h rfl ?_)
   |(refine az h (by rfl) λw h=>?_)
   |(refine aD h λn w h=>?_)
   |(refine aT h λw h=>?_)
   |(refine bh h rfl λw h=>?_;dsimp only[dE,over]at h)
   |(refine ar (ke _ _ hv.cN hs.bo) h λr w h=>?_;obtain⟨hr,h⟩:=h.aP;(try dsimp only at hr h);try rw[hr]))
  have h:=(h.dQ (b:=b) (L':=(ad.db nw ((wM v (yi v.m s))))) (by simp));have h:au w0 S R _ (af n1 (Ks.mk aW s)^af b (ad.db nw ((wM v (yi v.m s))))^af nw (ad.eg ((wM v (yi v.m s)).m.w))):=h.aI;have hdef:eO v.m s tso=Kx (Ed (tY (yi v.m s) s tso)):=rfl;rw[hdef];have o1:=hv.w1 hs;have e1:jY v.m=jY (yi v.m s):=rfl;rw[e1]
  try dsimp only
  have e3:v.m.b.dy=(yi v.m s).b.dy:=rfl;have e4:v.m.bt=(yi v.m s).bt:=rfl;rw[e3,e4];clear e1 e3 e4;generalize yi v.m s=m1 at*
  repeat' (first
   |(refine aM h λw h=>?_)
   |(refine ac ?_)
   |(refine aw h rfl ?_)
   |(refine ah h rfl ?_)
   |(refine aO h ?_)
   |(refine aN h rfl ?_)
   |(refine az h (by rfl) λw h=>?_)
   |(refine aD h λn w h=>?_)
   |(refine aT h λw h=>?_)
   |(refine bh h rfl λw h=>?_;dsimp only[dE,over]at h)
   |(refine ar (tv b nw (wM v m1)) h λr w h=>?_;obtain⟨hr,h⟩:=h.aP;(try dsimp only at hr h);try rw[hr]))
  refine aK (OO _ _ _ _ _ o1.bw o1.b.dy (Gg m1) ht o1.Rt) h λw h=>?_;have h:au w0 S R _ (af n1 (Ks.mk aW s)^af b (ad.db nw ((wM v m1)))^af nw (ad.eg ((wM v m1).m.w))):=h.aI;have etar:BA (zJ m1) m1.b.dy (jY m1) tso m1.bt=ox m1 tso:=rfl;have o2:=o1.w2 hs ht;refine aQ h (λ_=>af n1 (Ks.mk aW s)^af b (ad.db nw ((wM v (tY m1 s tso))))^af nw (ad.eg ((wM v (tY m1 s tso)).m.w))) (λ_=>True) (λ_ w _ h=>?_) ?_
  ·generalize tY m1 s tso=m2 at*
   have ef:u64.wrap (4*m2.bt)=jw m2:=CV o2.bt;repeat' (first
    |(refine aM h λw h=>?_)
    |(refine ac ?_)
    |(refine aw h rfl ?_)
    |(refine ah h rfl ?_)
    |(refine aO h ?_)
    |(refine aN h rfl ?_)
    |(refine az h (by rfl) λw h=>?_)
    |(refine aD h λn w h=>?_)
    |(refine aT h λw h=>?_)
    |(refine bh h rfl λw h=>?_;dsimp only[dE,over]at h))
   have h:=(h.dQ (b:=b) (L':=(ad.db nw ((wM v (Ed m2))))) (by simp[ef]));have h:au w0 S R _ (af n1 (Ks.mk aW s)^af b (ad.db nw ((wM v (Ed m2))))^af nw (ad.eg ((wM v (Ed m2)).m.w))):=h.aI;have o3:=o2.w3;have em:m2.mode=(Ed m2).mode:=rfl
   try rw[em]
   clear em;generalize Ed m2=m3 at*
   have ef3:u64.wrap (4*m3.bt)=jw m3:=CV o3.bt;unfold Kx;refine ae (λc=>?_) λc=>?_
   ·have c:m3.mode=3:=cC;rw[aG c];repeat' (first
     |(refine aM h λw h=>?_)
     |(refine ac ?_)
     |(refine aw h rfl ?_)
     |(refine ah h rfl ?_)
     |(refine aO h ?_)
     |(refine aN h rfl ?_)
     |(refine az h (by rfl) λw h=>?_)
     |(refine aD h λn w h=>?_)
     |(refine aT h λw h=>?_)
     |(refine bh h rfl λw h=>?_;dsimp only[dE,over]at h))
    have h:=(h.dQ (b:=b) (L':=(ad.db nw ((wM v {m3 with cN:=jw m3})))) (by simp[ef3]));exact h.aI
   ·have c:¬m3.mode=3:=cC;rw[ay c];exact h.aI
  ·unfold tY;refine ac (ah h rfl (ae (λc=>?_) λc=>?_))
   ·have c:m1.first=true:=c;rw[aG c];repeat' (first
     |(refine aM h λw h=>?_)
     |(refine ac ?_)
     |(refine aw h rfl ?_)
     |(refine ah h rfl ?_)
     |(refine aO h ?_)
     |(refine aN h rfl ?_)
     |(refine az h (by rfl) λw h=>?_)
     |(refine aD h λn w h=>?_)
     |(refine aT h λw h=>?_)
     |(refine bh h rfl λw h=>?_;dsimp only[dE,over]at h)
     |(refine ar (fP _ _ hs.W8 hs.Ep) h λr w h=>?_;obtain⟨hr,h⟩:=h.aP;(try dsimp only at hr h);try rw[hr]))
    have h:=(h.dQ (b:=b) (L':=(ad.db nw ((wM v {m1 with cN:=if bJ (kO s) (fE s)>m1.cN then bJ (kO s) (fE s)else m1.cN})))) (by simp));exact⟨trivial,h.aI⟩
   have c:m1.first=false:=c;rw[ay (by rw[c];simp)];have ha:=hs.Ep.1;refine ah h rfl (ae (λc2=>?_) λc2=>?_)
   ·have c2:fE s=0:=gK;rw[ay (by omega)];exact⟨trivial,h⟩
   have c2:¬fE s=0:=gK;rw[aG (by omega)];refine ac (ah h rfl (ae (λc3=>?_) λc3=>?_))
   ·have c3:m1.p.full=true:=c3;rw[aG c3];repeat' (first
     |(refine aM h λw h=>?_)
     |(refine ac ?_)
     |(refine aw h rfl ?_)
     |(refine ah h rfl ?_)
     |(refine aO h ?_)
     |(refine aN h rfl ?_)
     |(refine az h (by rfl) λw h=>?_)
     |(refine aD h λn w h=>?_)
     |(refine aT h λw h=>?_)
     |(refine bh h rfl λw h=>?_;dsimp only[dE,over]at h)
     |(refine ar (fP _ _ o1.cN hs.Ep) h λr w h=>?_;obtain⟨hr,h⟩:=h.aP;(try dsimp only at hr h);try rw[hr]))
    have h:=(h.dQ (b:=b) (L':=(ad.db nw ((wM v {m1 with cN:=if ox m1 tso<bJ m1.cN (fE s)then ox m1 tso else bJ m1.cN (fE s)})))) (by simp[ox];rfl));exact⟨trivial,h.aI⟩
   have c3:m1.p.full=false:=c3;rw[ay (by rw[c3];simp)];have e10:u64.wrap (10*m1.bt)=10*m1.bt:=(by have:=o1.bt;exact ja);refine aQ h (λ_=>af n1 (Ks.mk aW s)^af b (ad.db nw ((wM v m1)))^af nw (ad.eg ((wM v m1).m.w))) (λy:Bool=>y=decide (m1.cN<ox m1 tso∨gO s<10*m1.bt)) (λ(y:Bool) w hy h=>?_) ?_
   ·rw[hy];refine ae (λc4=>?_) λc4=>?_
    ·rw[aG (bV c4)];repeat' (first
      |(refine aM h λw h=>?_)
      |(refine ac ?_)
      |(refine aw h rfl ?_)
      |(refine ah h rfl ?_)
      |(refine aO h ?_)
      |(refine aN h rfl ?_)
      |(refine az h (by rfl) λw h=>?_)
      |(refine aD h λn w h=>?_)
      |(refine aT h λw h=>?_)
      |(refine bh h rfl λw h=>?_;dsimp only[dE,over]at h)
      |(refine ar (fP _ _ o1.cN hs.Ep) h λr w h=>?_;obtain⟨hr,h⟩:=h.aP;(try dsimp only at hr h);try rw[hr]))
     have h:=(h.dQ (b:=b) (L':=(ad.db nw ((wM v {m1 with cN:=bJ m1.cN (fE s)})))) (by simp));exact⟨trivial,h.aI⟩
    ·rw[ay (bY c4)];exact⟨trivial,h⟩
   ·refine aM h λw h=>ac (ah h rfl (ae (λc4=>?_) λc4=>?_))
    ·have c4:m1.cN<ox m1 tso:=bV c4;exact⟨by simp[c4],h⟩
    ·have c4:¬m1.cN<ox m1 tso:=bY c4;refine ah h rfl (ac (ah h rfl ?_));dsimp only;rw[e10];exact⟨by simp[c4],h⟩
theorem Ts{m:Md}(h:m.mode=3)(s:Sm)(tso:Int):eO m s tso={m with cN:=jw m}:=by
 have k2:∀m:Md,∃x,tY m s tso={m with cN:=x}:=λm=>by unfold tY;(repeat' split)<;>exact⟨_,rfl⟩
 obtain⟨x,hx⟩:=k2 (yi m s);unfold eO;rw[hx];unfold Kx;rw[aG (by show m.mode=3;exact h)]
 rfl
theorem OJ(b nw v)(hv:gr v.m)(o s)(hs:oi s):bu (Uv (some ⟨b,0⟩) s o) (af b (ad.db nw v)^af nw (ad.eg v.m.w))
  (λ_=>xQ (λx:Int=>U x∧(v.m.mode≠3→x=(bz v.m s o).cN)) (λx=>af b (ad.db nw ((wM v {bz v.m s o with cN:=x})))^af nw (ad.eg ((wM v {bz v.m s o with cN:=x}).m.w)))):=
 bC λw0 S R h=>by
  refine aD h λn1 w h=>?_;have h:au w0 S R w (af n1 (Ks.mk aW s)^af b (ad.db nw v)^af nw (ad.eg v.m.w)):=h;refine aQ h (λ_=>af n1 (Ks.mk aW s)^af b (ad.db nw v)^af nw (ad.eg v.m.w)) (λy:Bool=>y=decide (gT s>0∧v.m.mn=false)) (λ(y:Bool) w hy h=>?_) ?_
  ·rw[hy];unfold bz;refine ae (λc=>?_) λc=>?_
   ·rw[aG (bV c)];repeat' (first
     |(refine aM h λw h=>?_)
     |(refine ac ?_)
     |(refine aw h rfl ?_)
     |(refine ah h rfl ?_)
     |(refine aO h ?_)
     |(refine aN h rfl ?_)
     |(refine az h (by rfl) λw h=>?_)
     |(refine aD h λn w h=>?_)
     |(refine aT h λw h=>?_)
     |(refine bh h rfl λw h=>?_;dsimp only[dE,over]at h)
     |(refine ar (fP _ _ hs.del hs.W8) h λr w h=>?_;obtain⟨hr,h⟩:=h.aP;(try dsimp only at hr h);try rw[hr]))
    have h:=(h.dQ (b:=b) (L':=(ad.db nw ((wM v {v.m with mn:=true,first:=true,kj:=bJ (gO s) (kO s),gP:=if v.m.cN>v.m.gP then v.m.cN else v.m.gP})))) (by simp));exact(h.rA v.m.cN ⟨hv.cN,λ_=>rfl⟩).br
   rw[ay (bY c)];refine ac (ah h rfl (ae (λc2=>?_) λc2=>?_))
   ·have c2:v.m.mn=false:=gK;rw[ay (by rw[c2];simp)];exact(h.rA v.m.cN ⟨hv.cN,λ_=>rfl⟩).br
   have c2:v.m.mn=true:=gK;rw[aG c2];refine aQ h (λ_=>af n1 (Ks.mk aW s)^af b (ad.db nw ((wM v {v.m with first:=v.m.first&&!o})))^af nw (ad.eg ((wM v {v.m with first:=v.m.first&&!o}).m.w))) (λ_=>True) (λ_ w _ h=>?_) ?_
   ·repeat' (first
     |(refine aM h λw h=>?_)
     |(refine ac ?_)
     |(refine aw h rfl ?_)
     |(refine ah h rfl ?_)
     |(refine aO h ?_)
     |(refine aN h rfl ?_)
     |(refine az h (by rfl) λw h=>?_)
     |(refine aD h λn w h=>?_)
     |(refine aT h λw h=>?_)
     |(refine bh h rfl λw h=>?_;dsimp only[dE,over]at h))
    refine ae (λc3=>?_) λc3=>?_
    ·have c3:gO s≥v.m.kj:=bV c3;rw[ay (show ¬gO s<v.m.kj by omega)];repeat' (first
      |(refine aM h λw h=>?_)
      |(refine ac ?_)
      |(refine aw h rfl ?_)
      |(refine ah h rfl ?_)
      |(refine aO h ?_)
      |(refine aN h rfl ?_)
      |(refine az h (by rfl) λw h=>?_)
      |(refine aD h λn w h=>?_)
      |(refine aT h λw h=>?_)
      |(refine bh h rfl λw h=>?_;dsimp only[dE,over]at h))
     refine ae (λc4=>?_) λc4=>?_
     ·have c4:v.m.mode≠3:=(by simpa using c4);repeat' (first
       |(refine aM h λw h=>?_)
       |(refine ac ?_)
       |(refine aw h rfl ?_)
       |(refine ah h rfl ?_)
       |(refine aO h ?_)
       |(refine aN h rfl ?_)
       |(refine az h (by rfl) λw h=>?_)
       |(refine aD h λn w h=>?_)
       |(refine aT h λw h=>?_)
       |(refine bh h rfl λw h=>?_;dsimp only[dE,over]at h))
      have h:=(h.dQ (b:=b) (L':=(ad.db nw ((wM v (kF {v.m with first:=v.m.first&&!o}))))) (by simp[kF,c4]));have ew:(kF {v.m with first:=v.m.first&&!o}).w=v.m.w:=(by unfold kF;split<;>rfl);rw[←ew]at h;have hU:U (kF {v.m with first:=v.m.first&&!o}).cN:=by
       simp only[kF,aG c4];exact Bk hv.gP hv.cN
      generalize kF {v.m with first:=v.m.first&&!o}=mo at*
      exact(h.rA mo.cN ⟨hU,λ_=>rfl⟩).br
     ·have c4:v.m.mode=3:=(by simpa using c4);have h:=(h.dQ (b:=b) (L':=(ad.db nw ((wM v {kF {v.m with first:=v.m.first&&!o}with cN:=if v.m.gP>v.m.cN then v.m.gP else v.m.cN})))) (by simp[kF,c4]));have ew:(kF {v.m with first:=v.m.first&&!o}).w=v.m.w:=(by unfold kF;split<;>rfl);rw[←ew]at h;generalize kF {v.m with first:=v.m.first&&!o}=mo at*
      exact(h.rA (if v.m.gP>v.m.cN then v.m.gP else v.m.cN) ⟨Bk hv.gP hv.cN,λhh=>absurd c4 hh⟩).br
    ·have c3:¬gO s≥v.m.kj:=bY c3;rw[aG (show gO s<v.m.kj by omega)];exact(h.rA v.m.cN ⟨hv.cN,λ_=>rfl⟩).br
   ·refine ae (λc3=>?_) λc3=>?_
    ·repeat' (first
      |(refine aM h λw h=>?_)
      |(refine ac ?_)
      |(refine aw h rfl ?_)
      |(refine ah h rfl ?_)
      |(refine aO h ?_)
      |(refine aN h rfl ?_)
      |(refine az h (by rfl) λw h=>?_)
      |(refine aD h λn w h=>?_)
      |(refine aT h λw h=>?_)
      |(refine bh h rfl λw h=>?_;dsimp only[dE,over]at h))
     have h:=(h.dQ (b:=b) (L':=(ad.db nw ((wM v {v.m with first:=v.m.first&&!o})))) (by rw[c3];simp));exact⟨trivial,h.aI⟩
    ·have h:=(h.dQ (b:=b) (L':=(ad.db nw ((wM v {v.m with first:=v.m.first&&!o})))) (by rw[c3];simp));exact⟨trivial,h.aI⟩
  ·refine ah h rfl (ae (λc=>?_) λc=>?_)
   ·have c:gT s>0:=bV c;exact ac (ah h rfl ⟨by simp[c],h⟩)
   ·have c:¬gT s>0:=bY c;exact⟨by simp[c],h⟩
theorem AL(n:Int):bu (TY n) bg (λr=>ex λp:Nat×Nat=>bs (r=some ⟨p.1,0⟩) (af p.1 ((λb nw=>(ad.db nw ((Rm.mk (mM n) false 0 739)))) p.1 p.2)^af p.2 (ad.eg ((mM n).w)))):=
 bC λw0 S R h=>by
  refine ar (Pg 10) h λr w h=>?_;obtain⟨nw,h⟩:=h.lV;obtain⟨hr,h⟩:=h.aP;rw[hr];have em:(if(if(9000:Int)<n then(9000:Int)else n)>(100:Int)then(if(9000:Int)<n then(9000:Int)else n)else(100:Int))=nn n:=by unfold nn;(repeat' split)<;>omega
  rw[em];have hm:=IZ n;have ew:u64.wrap ((10:Int)*nn n)=10*nn n:=ja;have ew2:u64.wrap (10*nn n*1000)=10*nn n*1000:=ja;rw[ew];refine aD h λb w h=>?_;refine ac (bh h rfl λw h=>?_);dsimp only[dE,over]at h;refine ac (ah h rfl ?_);dsimp only;rw[ew2];refine aK (Cl _ _ ⟨by omega,by omega⟩ (bm 739)) h λw h=>?_;refine ac (bh h rfl λw h=>?_);dsimp only[dE,over]at h;have h:=(h.dQ (b:=b) (L':=(ad.db nw ((Rm.mk (mM n) false 0 739)))) (by simp));exact au.ie (b,nw) (au.aH rfl h.aI)
theorem zU(b nw n1 n2 v)(hv:gr v.m)(s)(h:au w0 S R w (af n1 (Ks.mk aW s)^af n2 [aE (0:Int),aE (0:Int),aB (0:Int),aB (0:Int),aB (0:Int),aB (0:Int),aB (0:Int),aB (0:Int),bc false,bc false]^af b (ad.db nw v)^af nw (ad.eg v.m.w)))(k:∀w,au w0 S R w (af n1 (Ks.mk aW s)^af n2 [aE (0:Int),aE (0:Int),aB (0:Int),aB (0:Int),aB (0:Int),aB (0:Int),aB (0:Int),aB (0:Int),bc false,bc false]^af b (ad.db nw ((wM v (dT v.m))))^af nw (ad.eg ((wM v (dT v.m)).m.w)))→K w):
  join [] (λJ36=>
 call Tryz.prog gk [.lf (.ptr (some ⟨b,0⟩))] [.lf (.int .u64)] λ(r38:Int)=>
 aq (decide (r38>(0:Int))) (
 call Tryz.prog gk [.lf (.ptr (some ⟨b,0⟩))] [.lf (.int .u64)] λ(r39:Int)=>
 call Tryz.prog uk [.lf (.int .u64 r39),.lf (.int .u64 (fF v.m))] [.lf (.int .u64)] λ(r40:Int)=>
 join [.bool] (λJ41=>
 aC (some ⟨b,0⟩) λq43=>
 ld [.bool] ⟨q43.b,q43.o+6⟩ λ(x44:Bool)=>
 aq x44 (
 J41 true)<|
 aC (some ⟨b,0⟩) λq45=>
 ld [.int .u64] ⟨q45.b,q45.o+24⟩ λ(x46:Int)=>
 J41 (decide ((if r40>(1:Int)then r40 else(1:Int))>x46))) λ(y42:Bool)=>
 aq y42 (
 aC (some ⟨b,0⟩) λq47=>
 st ⟨q47.b,q47.o+24⟩ [aB (if r40>(1:Int)then r40 else(1:Int))]<|
 J36 ())<|
 J36 ())<|
 J36 ()) (λ_=>K) w:=by
 refine aQ h (λ_=>af n1 (Ks.mk aW s)^af n2 [aE (0:Int),aE (0:Int),aB (0:Int),aB (0:Int),aB (0:Int),aB (0:Int),aB (0:Int),aB (0:Int),bc false,bc false]^af b (ad.db nw ((wM v (dT v.m))))^af nw (ad.eg ((wM v (dT v.m)).m.w))) (λ_=>True) (λ_ w _ h=>k w h) ?_;unfold dT;have hb:=hv.bw;refine aK (tv b nw v) h λw h=>?_;refine ae (λc=>?_) λc=>?_
 ·have c:zJ v.m>0:=bV c;rw[ay (by omega)];refine aK (tv b nw v) h λw h=>?_;refine ar (Cl _ _ hb (Ge v.m)) h λr w h=>?_;obtain⟨hr,h⟩:=h.aP;have e:(if r>(1:Int)then r else(1:Int))=Kw v.m:=by
   have e:∀x:Int,(if x>1 then x else 1)=if 1>x then 1 else x:=λx=>by(repeat' split)<;>omega
   rw[hr];exact e _
  rw[e];have h:au _ _ _ _ (af n1 (Ks.mk aW s)^af n2 [aE (0:Int),aE (0:Int),aB (0:Int),aB (0:Int),aB (0:Int),aB (0:Int),aB (0:Int),aB (0:Int),bc false,bc false]^af b (ad.db nw v)^af nw (ad.eg v.m.w)):=h.aI;refine aQ h (λ_=>af n1 (Ks.mk aW s)^af n2 [aE (0:Int),aE (0:Int),aB (0:Int),aB (0:Int),aB (0:Int),aB (0:Int),aB (0:Int),aB (0:Int),bc false,bc false]^af b (ad.db nw v)^af nw (ad.eg v.m.w)) (λy:Bool=>y=decide (v.m.p.full=true∨Kw v.m>v.m.ba)) (λ(y:Bool) w hy h=>?_) ?_
  ·rw[hy];refine ae (λc2=>?_) λc2=>?_
   ·rw[aG (bV c2)];repeat' (first
     |(refine aM h λw h=>?_)
     |(refine ac ?_)
     |(refine aw h rfl ?_)
     |(refine ah h rfl ?_)
     |(refine aO h ?_)
     |(refine aN h rfl ?_)
     |(refine az h (by rfl) λw h=>?_)
     |(refine aD h λn w h=>?_)
     |(refine aT h λw h=>?_)
     |(refine bh h rfl λw h=>?_;dsimp only[dE,over]at h))
    have h:=(h.dQ (b:=b) (L':=(ad.db nw ((wM v {v.m with ba:=Kw v.m})))) (by simp));exact⟨trivial,h.aI⟩
   ·rw[ay (bY c2)];exact⟨trivial,h⟩
  ·refine ac (ah h rfl (ae (λc2=>?_) λc2=>?_))
   ·have c2:v.m.p.full=true:=c2;exact⟨by simp[c2],h⟩
   ·have c2:v.m.p.full=false:=c2;exact ac (ah h rfl ⟨by simp[c2],h⟩)
 ·have c:¬zJ v.m>0:=bY c;have:=hb.1;rw[aG (by omega)];exact⟨trivial,h.aI⟩
theorem K3(b nw n1 n2 v)(hv:gr v.m)(s)(hs:oi s)(h:au w0 S R w (af n1 (Ks.mk aW s)^af n2 [aE (0:Int),aE (0:Int),aB (0:Int),aB (0:Int),aB (0:Int),aB (0:Int),aB (0:Int),aB (0:Int),bc false,bc false]^af b (ad.db nw v)^af nw (ad.eg v.m.w)))(k:∀w,au w0 S R w (af n1 (Ks.mk aW s)^af n2 [aE (0:Int),aE (0:Int),aB (0:Int),aB (0:Int),aB (0:Int),aB (0:Int),aB (0:Int),aB (0:Int),bc false,bc false]^af b (ad.db nw ((wM v (fh v.m s))))^af nw (ad.eg ((wM v (fh v.m s)).m.w)))→K w):
  join [] (λJ9=>
 join [.bool] (λJ11=>
 ld [.int .u64] ⟨n1,5⟩ λ(x13:Int)=>
 aq (decide (x13>(0:Int))) (
 ld [.int .u64] ⟨n1,3⟩ λ(x14:Int)=>
 J11 (decide (x14>(0:Int))))<|
 J11 false) λ(y12:Bool)=>
 aq y12 (
 bR<|
 ld [.int .u64] ⟨n1,1⟩ λ(x15:Int)=>
 ld [.int .u64] ⟨n1,2⟩ λ(x16:Int)=>
 ld [.int .u64] ⟨n1,3⟩ λ(x17:Int)=>
 call Tryz.prog vo [.lf (.int .u64 x15),.lf (.int .u64 x16)] [.lf (.int .u64)] λ(r18:Int)=>
 ct ⟨n1,3⟩ (Ks.mk [.int .u64] x17)<|
 call Tryz.prog rO [.lf (.int .u64 r18),.lf (.int .u64 (1000000000:Int)),.lf (.int .u64 x17)] [.lf (.int .u64)] λ(r19:Int)=>
 join [.bool] (λJ20=>
 ld [.bool] ⟨n1,8⟩ λ(x22:Bool)=>
 aq (!x22) (
 J20 true)<|
 aC (some ⟨b,0⟩) λq23=>
 ld [.ptr] ⟨q23.b,q23.o+1⟩ λ(x24:bO)=>
 aC x24 λq25=>
 eA (0≤(0:Int)∧(0:Int)<3)<|
 ld [.int .u64] ⟨q25.b,q25.o+4+(0:Int).toNat*1⟩ λ(x26:Int)=>
 J20 (decide (r19≥x26))) λ(y21:Bool)=>
 aq y21 (
 bR<|
 aC (some ⟨b,0⟩) λq27=>
 aC (some ⟨b,0⟩) λq28=>
 ld [.ptr] ⟨q27.b,q27.o+1⟩ λ(x29:bO)=>
 ld [.int .u64] ⟨q28.b,q28.o+2⟩ λ(x30:Int)=>
 call Tryz.prog pC [.lf (.ptr x29),.lf (.int .u64 x30),.lf (.int .u64 r19)] [.lf (.int .u64)] λ(r31:Int)=>
 J9 ())<|
 J9 ())<|
 J9 ()) (λ_=>K) w:=by
 refine aQ h (λ_=>af n1 (Ks.mk aW s)^af n2 [aE (0:Int),aE (0:Int),aB (0:Int),aB (0:Int),aB (0:Int),aB (0:Int),aB (0:Int),aB (0:Int),bc false,bc false]^af b (ad.db nw ((wM v (fh v.m s))))^af nw (ad.eg ((wM v (fh v.m s)).m.w))) (λ_=>True) (λ_ w _ h=>k w h) ?_;unfold fh;have ha:=hs.Ep.1;have hti:=hs.Xj.1;refine aQ h (λ_=>af n1 (Ks.mk aW s)^af n2 [aE (0:Int),aE (0:Int),aB (0:Int),aB (0:Int),aB (0:Int),aB (0:Int),aB (0:Int),aB (0:Int),bc false,bc false]^af b (ad.db nw v)^af nw (ad.eg v.m.w)) (λy:Bool=>y=decide (¬(fE s=0∨AQ s=0))) (λ(y:Bool) w hy h=>?_) ?_
 ·rw[hy];refine ae (λc=>?_) λc=>?_
  ·have c:¬(fE s=0∨AQ s=0):=bV c;rw[ay c];have hd:=nB hs.del hs.pri;have hk:=yS hd (bm 1000000000) hs.Xj;repeat' (first
    |(refine aM h λw h=>?_)
    |(refine ac ?_)
    |(refine aw h rfl ?_)
    |(refine ah h rfl ?_)
    |(refine aO h ?_)
    |(refine aN h rfl ?_)
    |(refine az h (by rfl) λw h=>?_)
    |(refine aD h λn w h=>?_)
    |(refine aT h λw h=>?_)
    |(refine bh h rfl λw h=>?_;dsimp only[dE,over]at h)
    |(refine ar (ke _ _ hs.del hs.pri) h λr w h=>?_;obtain⟨hr,h⟩:=h.aP;(try dsimp only at hr h);try rw[hr]))
   refine ar (nY _ _ _ hd (bm 1000000000) hs.Xj) h λr w h=>?_;obtain⟨hr,h⟩:=h.aP;have hr:r=mK s:=hr;rw[hr];have h:au _ _ _ _ (af n1 (Ks.mk aW s)^af n2 [aE (0:Int),aE (0:Int),aB (0:Int),aB (0:Int),aB (0:Int),aB (0:Int),aB (0:Int),aB (0:Int),bc false,bc false]^af b (ad.db nw v)^af nw (ad.eg v.m.w)):=h.aI;have hk:U (mK s):=hk;refine aQ h (λ_=>af n1 (Ks.mk aW s)^af n2 [aE (0:Int),aE (0:Int),aB (0:Int),aB (0:Int),aB (0:Int),aB (0:Int),aB (0:Int),aB (0:Int),bc false,bc false]^af b (ad.db nw v)^af nw (ad.eg v.m.w)) (λy:Bool=>y=decide (rG s=false∨mK s≥v.m.w.v0)) (λ(y:Bool) w hy h=>?_) ?_
   ·rw[hy];refine ae (λc2=>?_) λc2=>?_
    ·rw[aG (bV c2)];repeat' (first
      |(refine aM h λw h=>?_)
      |(refine ac ?_)
      |(refine aw h rfl ?_)
      |(refine ah h rfl ?_)
      |(refine aO h ?_)
      |(refine aN h rfl ?_)
      |(refine az h (by rfl) λw h=>?_)
      |(refine aD h λn w h=>?_)
      |(refine aT h λw h=>?_)
      |(refine bh h rfl λw h=>?_;dsimp only[dE,over]at h))
     refine ar (AP nw v.m.w hv.w v.m.r.n (mK s) hv.r.n hk) h λr w h=>?_;obtain⟨hr,h⟩:=h.aP;exact⟨trivial,h.aI⟩
    ·rw[ay (bY c2)];exact⟨trivial,h⟩
   ·refine ah h rfl (ae (λc2=>?_) λc2=>?_)
    ·have c2:rG s=false:=gK;exact⟨by simp[c2],h⟩
    ·have c2:rG s=true:=gK;refine ac (ah h rfl (ac ⟨by decide,ah h rfl ?_⟩));exact⟨by simp[c2],h⟩
  ·have c:¬¬(fE s=0∨AQ s=0):=bY c;rw[aG (xj.1 c)];exact⟨trivial,h⟩
 ·refine ah h rfl (ae (λc=>?_) λc=>?_)
  ·have c:fE s>0:=bV c;refine ah h rfl ⟨?_,h⟩;rw[jG,iZ,iZ];show AQ s>0↔_;omega
  ·have c:¬fE s>0:=bY c;refine⟨?_,h⟩;have:fE s=0:=(by omega);simp[this]
theorem GM(h1:m'.mode=m.mode)(h2:m'.q=m.q)(h3:m'.c=m.c):fF m'=fF m:=by unfold fF;rw[h1,h2,h3]
theorem Ic(h1:m'.mode=m.mode):jY m'=jY m:=by unfold jY;rw[h1]
theorem V3(m):(dT m).mode=m.mode∧(dT m).q=m.q∧(dT m).c=m.c∧(dT m).b=m.b:=by unfold dT;(repeat' split)<;>exact⟨rfl,rfl,rfl,rfl⟩
theorem M5(m s o):(bz m s o).mode=m.mode∧(bz m s o).q=m.q∧(bz m s o).c=m.c∧(bz m s o).b=m.b:=by unfold bz kF;(repeat' split)<;>exact⟨rfl,rfl,rfl,rfl⟩
theorem M6(m s)(tso:Int):∃x,eO m s tso={m with cN:=x}:=by
 have k2:∀m:Md,∃x,tY m s tso={m with cN:=x}:=λm=>by unfold tY;(repeat' split)<;>exact⟨_,rfl⟩
 obtain⟨x,hx⟩:=k2 (yi m s);unfold eO;rw[hx];unfold Kx;split<;>exact⟨_,rfl⟩
theorem GR(m s):(fh m s).b=m.b:=by unfold fh;(repeat' split)<;>rfl
theorem K4(b nw:Nat)(v:Rm)(hv:gr v.m)(hR:Rel v)(s:Sm)(hs:oi s)(tso:Int)(ht:U tso):bu (P9 (some ⟨b,0⟩) s tso) (af b (ad.db nw v)^af nw (ad.eg v.m.w))
  (λr=>xQ (λu:Rm=>u.m=pM v.m s tso∧Rel u∧u.g=fF u.m∧r=GW u.m) (λu=>af b (ad.db nw u)^af nw (ad.eg u.m.w))):=
 bC λw0 S R h=>by
  refine aD h λn1 w h=>?_;refine aD h λn2 w h=>?_;refine aM h λw h=>?_;obtain⟨o,ho⟩:∃o,o=rB v.m.r s:=⟨_,rfl⟩;have hu:pM v.m s tso=Np (Rn (Ec v.m s) o s) o s tso:=by rw[ho];rfl
  have hm1:Ec v.m s={v.m with r:=rU v.m.r s,q:=yk v.m.q o s}:=by rw[ho]
  have o1:=hv.u1 hs;rw[hu];rw[hm1]at o1⊢;refine aw (x:=s) h rfl (ac ?_);refine ar (OK b nw v s hs) h λr w h=>?_;obtain⟨hr,h⟩:=h.aP;rw[hr,←ho];refine aM h λw h=>?_;refine aw (x:=s) h rfl (ac ?_);refine ar (K2 b nw {v with m:={v.m with r:=rU v.m.r s}} hv.q o s hs) h λ_ w h=>?_;have hR1:Rel (wM v {v.m with r:=rU v.m.r s,q:=yk v.m.q o s}):=hR;have h:au w0 S R w (af n1 (Ks.mk aW s)^af n2 [aE (0:Int),aE (0:Int),aB (0:Int),aB (0:Int),aB (0:Int),aB (0:Int),aB (0:Int),aB (0:Int),bc false,bc false]^af b (ad.db nw ((wM v {v.m with r:=rU v.m.r s,q:=yk v.m.q o s})))^af nw (ad.eg ((wM v {v.m with r:=rU v.m.r s,q:=yk v.m.q o s}).m.w))):=h.aI;generalize({v.m with r:=rU v.m.r s,q:=yk v.m.q o s}:Md)=m1 at h hR1 o1⊢;clear hm1 hu hr ho;refine K3 b nw n1 n2 (wM v m1) o1 s hs h λw h=>?_;have h:au w0 S R w (af n1 (Ks.mk aW s)^af n2 [aE (0:Int),aE (0:Int),aB (0:Int),aB (0:Int),aB (0:Int),aB (0:Int),aB (0:Int),aB (0:Int),bc false,bc false]^af b (ad.db nw ((wM v (fh m1 s))))^af nw (ad.eg ((wM v (fh m1 s)).m.w))):=h;have o2:=o1.Rp hs;have hb2:=GR m1 s;have hR2:Rel (wM v (fh m1 s)):=λhh=>by
   have hh:m1.b.on=true:=(by rw[←hb2];exact hh);have:=hR1 hh;show v.set=decide ((fh m1 s).b.kj≠0)∧(v.set=true→v.pN=(fh m1 s).b.kj);rw[hb2];exact this
  have hu2:Rn m1 o s=I5 (fh m1 s) s o:=rfl;rw[hu2];generalize fh m1 s=m2 at h hR2 o2⊢;refine aw (x:=s) h rfl ?_;refine ar (HO b nw (wM v m2) o2 hR2 o s hs) h λ_ w h=>?_;obtain⟨u,⟨hu,hRu,_⟩,h⟩:=h.uQ;have hu:u.m=I5 m2 s o:=hu;have o3:gr u.m:=by rw[hu];exact(o2.XR hs).pipe.m1.m2 hs |>.look hs
  rw[←hu];clear hu;refine aK (HL b nw u o3) h λw h=>?_;refine ac (bh h rfl λw h=>?_);dsimp only[dE,over]at h;have h:=(h.dQ (b:=b) (L':=(ad.db nw ((Rm.mk u.m u.set u.pN (fF u.m))))) (by simp));have h:au w0 S R w (af n1 (Ks.mk aW s)^af n2 [aE (0:Int),aE (0:Int),aB (0:Int),aB (0:Int),aB (0:Int),aB (0:Int),aB (0:Int),aB (0:Int),bc false,bc false]^af b (ad.db nw ((Rm.mk u.m u.set u.pN (fF u.m))))^af nw (ad.eg ((Rm.mk u.m u.set u.pN (fF u.m)).m.w))):=h.aI;refine zU b nw n1 n2 (Rm.mk u.m u.set u.pN (fF u.m)) o3 s h λw h=>?_;have o4:=o3.RK;obtain⟨p1,p2,p3,p4⟩:=V3 u.m;have g4:=GM p1 p2 p3;have w4:=Ic p1;refine aw (x:=s) h rfl ?_;refine ar (OJ b nw (Rm.mk (dT u.m) u.set u.pN (fF u.m)) o4 o s hs) h λ_ w h=>?_;obtain⟨x,⟨hx,hx3⟩,h⟩:=h.uQ;obtain⟨q1,q2,q3,q4⟩:=M5 (dT u.m) s o;have o5:=o4.recover (o:=o) hs;have o6:gr {bz (dT u.m) s o with cN:=x}:={o5 with cN:=hx};have w6:jY {bz (dT u.m) s o with cN:=x}=jY u.m:=(Ic (m:=bz (dT u.m) s o) (m':={bz (dT u.m) s o with cN:=x}) rfl).trans ((Ic q1).trans w4);refine aw (x:=s) h rfl ?_;dsimp only;rw[←w6];refine ar (Ld b nw (wM (Rm.mk (dT u.m) u.set u.pN (fF u.m)) {bz (dT u.m) s o with cN:=x}) o6 s hs tso ht) h λ_ w h=>?_;have hfin:eO {bz (dT u.m) s o with cN:=x} s tso=Np u.m o s tso:=by
   show _=eO (bz (dT u.m) s o) s tso;by_cases hm:(dT u.m).mode=3
   ·rw[Ts (m:={bz (dT u.m) s o with cN:=x}) (q1.trans hm),Ts (q1.trans hm)]
    rfl
   ·have:x=(bz (dT u.m) s o).cN:=hx3 hm;rw[this]
  obtain⟨y,hy⟩:=M6 {bz (dT u.m) s o with cN:=x} s tso;have gf:fF u.m=fF (Np u.m o s tso):=by rw[←hfin,hy,GM (m:=bz (dT u.m) s o) (m':={bz (dT u.m) s o with cN:=y}) rfl rfl rfl,GM q1 q2 q3,g4]
  have bf:(Np u.m o s tso).b=u.m.b:=by
   rw[←hfin,hy];show(bz (dT u.m) s o).b=u.m.b;rw[q4,p4]
  have hRf:Rel (Rm.mk (Np u.m o s tso) u.set u.pN (fF u.m)):=λhh=>by
   have:=hRu (by rw[←bf];exact hh);show u.set=decide ((Np u.m o s tso).b.kj≠0)∧(u.set=true→u.pN=(Np u.m o s tso).b.kj);rw[bf];exact this
  have h:au w0 S R w (af b (ad.db nw ((Rm.mk (eO {bz (dT u.m) s o with cN:=x} s tso) u.set u.pN (fF u.m))))^af nw (ad.eg ((Rm.mk (eO {bz (dT u.m) s o with cN:=x} s tso) u.set u.pN (fF u.m)).m.w))^af n2 [aE (0:Int),aE (0:Int),aB (0:Int),aB (0:Int),aB (0:Int),aB (0:Int),aB (0:Int),aB (0:Int),bc false,bc false]):=h.aI;rw[hfin]at h;generalize Np u.m o s tso=mf at h gf bf hRf⊢;refine ar (HY b nw (Rm.mk mf u.set u.pN (fF u.m))) h λr w h=>?_;obtain⟨hr,h⟩:=h.aP;have hr:r=GW mf:=by rw[hr];unfold rSt GW;rw[gf]
  rw[hr];refine az h (by rfl) λw h=>?_;refine aw (x:=GW mf) h rfl ?_;exact(h.rA (Rm.mk mf u.set u.pN (fF u.m)) ⟨rfl,hRf,gf,rfl⟩).br
end Eh

end Go.X
