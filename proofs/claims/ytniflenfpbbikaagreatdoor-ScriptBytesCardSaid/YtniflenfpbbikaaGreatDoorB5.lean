/- Contracts. -/
import Derived.BigCall
import Derived.BigGuard
import Derived.CallsIn
import Derived.Laws.Externs
import Derived.Lib.AppendStr
import Derived.Lib.Builder
import Derived.Lib.ItoaMem
import Derived.Lib.ItoaNum
import Derived.Lib.LaidTab
import Derived.Lib.Strings
import Derived.Lib.UnsafeStr
import Derived.Lib.Walk
import Derived.Shelf.Strconv.Itoa3
import Derived.WalkKit
import Derived.Test.YtniflenfpbbikaaGreatDoorB4
set_option linter.all false
set_option autoImplicit true
set_option relaxedAutoImplicit true
namespace Go.X
open IntKind (u64 i64)
open Go.Proofs
namespace xQ
open bK bp lJ jE fh
open eC (Sk cm cv eG iz iU)
abbrev Ct:=Int×Int×Int×Int×Int×Int×Int×Int
abbrev Lg:Ct:=(0,0,0,0,0,0,0,0)
abbrev tF(c:Ct):Int:=c.2.2.2.2.2.2.2
abbrev inc(n:Int):Int:=i64.wrap (n+1)
abbrev dec(n:Int):Int:=i64.wrap (n-1)
def XS(c:Ct)(f:Int):Int:=if f=0 then c.2.1 else if f=1 then c.2.2.1 else if f=2 then c.2.2.2.1 else if f=3 then c.2.2.2.2.1 else if f=4 then c.2.2.2.2.2.1 else c.2.2.2.2.2.2.1
def ug(c:Ct)(f:Int):Ct:=
 if f=0 then(c.1,inc c.2.1,c.2.2.1,c.2.2.2.1,c.2.2.2.2.1,c.2.2.2.2.2.1,c.2.2.2.2.2.2.1,c.2.2.2.2.2.2.2)
 else if f=1 then(c.1,c.2.1,inc c.2.2.1,c.2.2.2.1,c.2.2.2.2.1,c.2.2.2.2.2.1,c.2.2.2.2.2.2.1,c.2.2.2.2.2.2.2)
 else if f=2 then(c.1,c.2.1,c.2.2.1,inc c.2.2.2.1,c.2.2.2.2.1,c.2.2.2.2.2.1,c.2.2.2.2.2.2.1,c.2.2.2.2.2.2.2)
 else if f=3 then(c.1,c.2.1,c.2.2.1,c.2.2.2.1,inc c.2.2.2.2.1,c.2.2.2.2.2.1,c.2.2.2.2.2.2.1,c.2.2.2.2.2.2.2)
 else if f=4 then(c.1,c.2.1,c.2.2.1,c.2.2.2.1,c.2.2.2.2.1,inc c.2.2.2.2.2.1,c.2.2.2.2.2.2.1,c.2.2.2.2.2.2.2)
 else(c.1,c.2.1,c.2.2.1,c.2.2.2.1,c.2.2.2.2.1,c.2.2.2.2.2.1,inc c.2.2.2.2.2.2.1,c.2.2.2.2.2.2.2)
abbrev wait(c:Ct)(q:Int):Ct:=(c.1,c.2.1,c.2.2.1,c.2.2.2.1,c.2.2.2.2.1,c.2.2.2.2.2.1,c.2.2.2.2.2.2.1,q)
def iV(c:Ct)(f:Int):Int×Ct:=
 if f<0∨f≥6 then(1,c)else if f=0 then(0,ug (wait c (inc (tF c))) f)else if tF c=0 then(7,c)else(0,ug (wait c (dec (tF c))) f)
def gY{α:Type}(l:Nat→α)(i:Nat)(x:α):Nat→α:=λj=>if j=i then x else l j
theorem fm(l:Nat→α)(i:Nat)(x:α):gY l i x i=x:=by simp[gY]
theorem kh(l:Nat→α)(x:α)(h:j≠i):gY l i x j=l j:=by simp[gY,h]
theorem O6(l:Nat→α)(i:Nat):gY l i (l i)=l:=funext λj=>by unfold gY;split<;>simp_all
def gu(l:Nat→Ct)(s f:Int):Int×(Nat→Ct):=if s<0∨s≥8 then(8,l)else((iV (l s.toNat) f).1,gY l s.toNat (iV (l s.toNat) f).2)
def VG(l:Nat→Ct)(s:Int):Ct:=if s<0∨s≥8 then Lg else(s,(l s.toNat).2)
structure Mc where
 c:Cf
 af:Int
 so:Nat→Option Sk
 q:Qm
 l:Nat→Ct
abbrev eF(c:Cf):Mc:=⟨c,0,λ_=>none,C4 c,λ_=>Lg⟩
structure Ou where
 qY:List Sg
 dr:List Sg
 ft:List Int
 wd:Int
abbrev eZ:Ou:=⟨[],[],[],0⟩
def ib(af lh:Int):Int×Int:=if lh>4611686018427387904 then(3,af)else if lh<af then(4,af)else(0,lh)
def qx(x:Option Sk):Int:=match x with
 |none=>18446744073709551615
 |some v=>v.md.aY
def b_(so:Nat→Option Sk):List Int:=[qx (so 0),qx (so 1),qx (so 2),qx (so 3),qx (so 4),qx (so 5),qx (so 6),qx (so 7)]
def fx(v:Mc)(o:Ou):Ou×Mc:=
 match gU v.q v.af (b_ v.so)with
 |(some s,q)=>({o with qY:=[s]},{v with q:=q,l:=(gu v.l (sK s) 1).2})
 |(none,q)=>(if(lq q.ks).2 then{o with wd:=if 1>(lq q.ks).1.1 then 1 else(lq q.ks).1.1}else o,{v with q:=q})
def qT(v:Mc)(c:Cf):Int×Mc:=if(pI v.q c).1=0 then(0,{v with q:=(pI v.q c).2,c:=c})else((pI v.q c).1,{v with q:=(pI v.q c).2})
def cj(l:Nat→Ct)(o:Ou)(s:Sg)(f:Int):Ou×(Nat→Ct):=({o with dr:=o.dr++[s],ft:=o.ft++[f]},(gu l (sK s) f).2)
structure Pm where
 v:Sk
 q:Qm
 l:Nat→Ct
 o:Ou
def fresh(v:Sk):Nat:=(bW v.bf-bN v.bf).toNat+v.bd.1.countP (λp=>fg.jP p)
where
 bW (b:eX.Bf):Int:=b.1
 bN (b:eX.Bf):Int:=b.2.1
def enter(i af:Int)(s:Pm):Pm×Int:=
 let g:=(cm s.v af).1.1
 let e:=fF s.q g af
 if e.1.1=0 then(⟨(cm s.v af).2,e.2,(gu s.l i 0).2,s.o⟩,0)
 else(⟨(cv (cm s.v af).2 g.2.2.1).2,e.2,(cj (gu s.l i 0).2 s.o g e.1.1).2,(cj (gu s.l i 0).2 s.o g e.1.1).1⟩,1)
def lY(i af:Int):Nat→Pm→Pm
 |0,s=>s
 |k+1,s=>if(cm s.v af).1.2≠0 then{s with v:=(cm s.v af).2}else if(enter i af s).2=0 then lY i af k (enter i af s).1 else(enter i af s).1
def pi(i af:Int)(s:Pm):Pm:=lY i af (fresh s.v+1) s
def my(v:Mc)(i:Nat)(x:Sk)(o:Ou):Ou×Mc:=
 ((pi i v.af ⟨x,v.q,v.l,o⟩).o,{v with so:=gY v.so i (some (pi i v.af ⟨x,v.q,v.l,o⟩).v),q:=(pi i v.af ⟨x,v.q,v.l,o⟩).q,l:=(pi i v.af ⟨x,v.q,v.l,o⟩).l})
def dj(l:Nat→Ct)(o:Ou):List Sg→Ou×(Nat→Ct)
 |[]=>(o,l)
 |s::ss=>dj (cj l o s 5).2 (cj l o s 5).1 ss
def oH(v:Mc)(i:Nat)(o:Ou):Ou×Mc:=
 ((dj v.l o (cz v.q i).1).1,{v with so:=gY v.so i none,q:=(cz v.q i).2,l:=(dj v.l o (cz v.q i).1).2})
abbrev KD:Ks:=[.int .i64,.int .i64,.int .i64,.int .u64,.int .u64,.sl,.int .i64,.int .i64,.int .i64,.int .i64,.int .u64,.int .u64,.bool,.int .i64,.int .i64]
abbrev Dd:=Ks.T KD
abbrev dK(d:Dd):Int:=d.1
abbrev dS(d:Dd):Int:=d.2.1
abbrev dL(d:Dd):Int:=d.2.2.1
abbrev dU(d:Dd):Int:=d.2.2.2.1
abbrev dA(d:Dd):Int:=d.2.2.2.2.1
abbrev dR(d:Dd):Sl:=d.2.2.2.2.2.1
abbrev dC(d:Dd):Cf:=d.2.2.2.2.2.2
def dy(v:Sk)(af:Int)(d:Dd)(xs:List (Int×Int)):Int×Sk:=
 if dK d=2 then eG v (dL d)else if dK d=3 then ny.nP v af (dU d) xs else if dK d=4 then(0,iz v af)else cv v (dL d)
def iI(v:Mc)(d:Dd)(xs:List (Int×Int))(o:Ou):Int×Ou×Mc:=
 if ¬(0≤dS d∧dS d<8)then(8,o,v)
 else match v.so (dS d).toNat with
  |none=>if dK d=1 then(0,o,{v with so:=gY v.so (dS d).toNat (some (iU (dS d) (jz v.c) (jU v.c)))})else(10,o,v)
  |some x=>if dK d=1 then(9,o,v)else if dK d=9 then(0,(oH v (dS d).toNat o).1,(oH v (dS d).toNat o).2)
   else if(dy x v.af d xs).1=0 then(0,(my v (dS d).toNat (dy x v.af d xs).2 o).1,(my v (dS d).toNat (dy x v.af d xs).2 o).2)
   else((dy x v.af d xs).1,o,{v with so:=gY v.so (dS d).toNat (some (dy x v.af d xs).2)})
def vI(k:Int):Bool:=k==1||k==2||k==3||k==4||k==7||k==9
def dQ(v:Mc)(d:Dd)(xs:List (Int×Int)):Int×Ou×Mc:=
 if dK d=5 then((ib v.af (dA d)).1,eZ,{v with af:=(ib v.af (dA d)).2})
 else if dK d=6 then(0,(fx v eZ).1,(fx v eZ).2)
 else if dK d=8 then((qT v (dC d)).1,eZ,(qT v (dC d)).2)
 else if vI (dK d)then iI v d xs eZ
 else(12,eZ,v)
def nj(v:Mc)(d:Dd)(xs:List (Int×Int)):(Ou×Int)×Mc:=
 if(dQ v d xs).1≠0 then((eZ,(dQ v d xs).1),(dQ v d xs).2.2)else(((dQ v d xs).2.1,0),(dQ v d xs).2.2)
end xQ

namespace A1
open bK bp lJ xQ
theorem qd(s)(t:Int):bx (ZV s) (bg^aZ s KU [t]) (λr=>br (r=if t≥4611686018427387904 then 4611686018427387904 else t) bg):=
 bF λw0 S R h=>by
  have h:au w0 S R w0 (aZ s KU [t]^bg):=h.aK;have hs:s.len=1:=(h.rd (s:=s)).2;have e1:i64.wrap ((0:Int)+1)=1:=rfl;refine cZ (λ_:Int×Int=>aZ s KU [t]^bg) (λy:Int×Int=>y=(4611686018427387904,0)∨y=((if t≥4611686018427387904 then 4611686018427387904 else t),1)) (λy:Int×Int=>(1-y.2).toNat) h (.inl rfl) ?_;rintro(y:Int×Int) w hy h;rcases hy with rfl|rfl
  ·refine ae (λ_=>?_) λc=>(by rw[hs]at c;cases c);refine bT (s:=s) h (by decide) (by simp) (eE h s 0 (y:=t) rfl rfl ?_);dsimp only;rw[e1];refine ae (λc=>?_) λc=>?_
   ·have c:t≥4611686018427387904:=bZ c;exact⟨⟨.inr (by rw[aF c]),h⟩,by show(1-(1:Int)).toNat<(1-(0:Int)).toNat;decide⟩
   ·have c:¬t≥4611686018427387904:=cd c;exact⟨⟨.inr (by rw[aw c]),h⟩,by show(1-(1:Int)).toNat<(1-(0:Int)).toNat;decide⟩
  ·refine ae (λc=>(by rw[hs]at c;cases c)) λ_=>?_;exact au.aH rfl h.h_
theorem y_:bx (ZL 0) bg (λr=>ex λb:Nat=>br (r=some ⟨b,0⟩) (ah b [aC 0])):=
 bF λw0 S R h=>by
  refine aD (h.le (aG _)) λn1 w h=>?_;have h:=h.ct n1 KU [0] rfl (by simp);have h:au w0 S R w (aQ ⟨some ⟨n1,0⟩,1,1⟩ KU [0]^_):=h;refine bR (A:=bg) (Q:=aZ ⟨some ⟨n1,0⟩,1,1⟩ KU [0]) (qd ⟨some ⟨n1,0⟩,1,1⟩ 0) (h.le ((aG _).trans (aU _ _))) λr w h=>?_;obtain⟨hr,h⟩:=h.aP;rw[hr];refine aD h λn3 w h=>?_;exact au.gI n3 (au.aH rfl h.bq)
theorem Nk(b)(af to':Int):bx (ZN (some ⟨b,0⟩) to') (ah b [aC af]) (λr=>br (r=(ib af to').1) (ah b [aC (ib af to').2])):=
 bF λw0 S R h=>by
  refine ae (λc=>(by simp at c)) λ_=>ae (λc=>?_) λc=>?_
  ·have c:to'>4611686018427387904:=bZ c;rw[show ib af to'=(3,af) by unfold ib;rw[aF c]];exact au.aH rfl h
  ·have c:¬to'>4611686018427387904:=cd c;refine ac (aj (x:=af) h rfl (ae (λc2=>?_) λc2=>?_))
   ·have c2:to'<af:=bZ c2;rw[show ib af to'=(4,af) by unfold ib;rw[aw c,aF c2]];exact au.aH rfl h
   ·have c2:¬to'<af:=cd c2;rw[show ib af to'=(0,to') by unfold ib;rw[aw c,aw c2]];refine ac (aA h (by rfl) λw h=>?_);exact au.aH rfl h.aK
theorem Rt(b)(af:Int):bx (c98 (some ⟨b,0⟩)) (ah b [aC af]) (λr=>br (r=af) (ah b [aC af])):=
 bF λw0 S R h=>by
  refine ae (λc=>(by simp at c)) λ_=>ac (aj (x:=af) h rfl ?_);exact au.aH rfl h
abbrev Pu:Ks:=[.int .i64,.int .i64,.int .i64,.int .i64,.int .i64,.int .i64,.int .i64,.int .i64]
abbrev rows(l:Nat→Ct):List Ct:=[l 0,l 1,l 2,l 3,l 4,l 5,l 6,l 7]
theorem SQ(h:i<8):i=0∨i=1∨i=2∨i=3∨i=4∨i=5∨i=6∨i=7:=by omega
theorem wh(l)(h:i<8):(rows l)[i]?=some (l i):=by rcases SQ h with rfl|rfl|rfl|rfl|rfl|rfl|rfl|rfl<;>rfl
theorem Ov(l x)(h:i<8):(rows l).set i x=rows (gY l i x):=by rcases SQ h with rfl|rfl|rfl|rfl|rfl|rfl|rfl|rfl<;>rfl
def uX(b:Nat)(l:Nat→Ct):SP:=aQ ⟨some ⟨b,0⟩,8,8⟩ Pu (rows l)
instance(b:Nat)(l:Nat→Ct):nt (uX b l):=by unfold uX;infer_instance
theorem zA:bx ZM bg (λr=>ex λb:Nat=>br (r=some ⟨b,0⟩) (uX b (λ_=>Lg))):=
 bF λw0 S R h=>by
  refine aD h λn1 w h=>?_;have h:=h.ct n1 Pu (rows (λ_=>Lg)) rfl (by simp);exact au.gI n1 (au.aH rfl (show au w0 S R w (uX n1 (λ_=>Lg)^bg)from h).bq)
theorem M_(b)(s:Int):bx (TJ (some ⟨b,0⟩) s) bg (λr=>br (r=if s<0∨s≥8 then 8 else 0) bg):=
 bF λw0 S R h=>by
  refine ae (λc=>(by simp at c)) λ_=>ae (λc=>?_) λc=>?_
  ·have c:s<0∨s≥8:=cS;exact au.aH (by rw[aF c]) h
  ·have c:¬(s<0∨s≥8):=cS;exact au.aH (by rw[aw c]) h
theorem SO{f:Int}(h:¬(f<0∨f≥6)):f=0∨f=1∨f=2∨f=3∨f=4∨f=5:=by omega
theorem zK(b l)(s f:Int):bx (SG (some ⟨b,0⟩) s f) (uX b l) (λr=>br (r=(gu l s f).1) (uX b (gu l s f).2)):=
 bF λw0 S R h=>by
  have h:au w0 S R w0 (uX b l^bg):=h.le (aG _);refine aI (M_ b s) (h.le ((aG _).trans (aU _ _))) λw h=>?_;refine ae (λc=>?_) λc=>?_
  ·by_cases c1:s<0∨s≥8
   ·rw[show gu l s f=(8,l) by unfold gu;rw[aF c1],aF c1];exact au.aH rfl h.aK
   ·rw[aw c1]at c;cases c
  ·have c1:¬(s<0∨s≥8):=λx=>by rw[aF x]at c;cases c
   have hi:s.toNat<8:=(by omega);obtain⟨i,hii⟩:∃i,i=s.toNat:=⟨_,rfl⟩;have en:gu l s f=((iV (l i) f).1,gY l i (iV (l i) f).2):=(by unfold gu;rw[aw c1,hii]);rw[en,←hii];rw[←hii]at hi;have h:au w0 S R w (aQ ⟨some ⟨b,0⟩,8,8⟩ Pu (rows l)^bg):=h.aK (A:=uX b l^bg);have toL:∀{w:World} (x:Ct),au w0 S R w (aQ ⟨some ⟨b,0⟩,8,8⟩ Pu ((rows l).set i x)^bg)→au w0 S R w (uX b (gY l i x)):=λ{w} x h=>by rw[Ov l x hi]at h;exact h.bq
   have same:∀{w:World},au w0 S R w (aQ ⟨some ⟨b,0⟩,8,8⟩ Pu (rows l)^bg)→au w0 S R w (uX b (gY l i (l i))):=λ{w} h=>by rw[O6];exact h.bq
   refine ac ⟨by omega,?_⟩;by_cases c2:f<0∨f≥6
   ·have e1:iV (l i) f=(1,l i):=(by unfold iV;rw[aF c2]);rw[e1];refine⟨λ_ _=>False,λ_ _ hx=>hx.elim,?_⟩;refine ae (λ_=>au.aH rfl (same h)) λc=>?_;have c:¬(f<0∨f≥6):=cS;exact absurd c2 c
   ·have step:∀{w:World} (y z:Ct),(∀g,g=f→Ks.mk Pu z=fa (Ks.mk Pu y) (1+f.toNat) [aJ (inc (XS y f))])→au w0 S R w (aQ ⟨some ⟨b,0⟩,8,8⟩ Pu ((rows l).set i y)^bg)→z=(iV (l i) f).2→(iV (l i) f).1=0→
      bQ (az (some ⟨b,0+i*8⟩) λq13=>az (some ⟨b,0+i*8⟩) λq14=>dM (0≤f∧f<6)<|ld [.int .i64] ⟨q13.b,q13.o+1+f.toNat*1⟩ λ(x15:Int)=>dM (0≤f∧f<6)<|st ⟨q14.b,q14.o+1+f.toNat*1⟩ [aJ (i64.wrap (x15+(1:Int)))]<|λw'=>au w0 S R w' (br ((0:Int)=(iV (l i) f).1) (uX b (gY l i (iV (l i) f).2)))) w:=by
     intro w y z hz h e0 e1;have hy:((rows l).set i y)[i]?=some y:=by rw[sB (by show i<8;exact hi)]
     refine aM h λw h=>ac (ac ⟨by omega,?_⟩);refine eh h ⟨some ⟨b,0⟩,8,8⟩ i (1+f.toNat) y hy (by show(⟨b,0+i*8+1+f.toNat*1⟩:Pt)=⟨b,0+i*8+(1+f.toNat)⟩;rw[Nat.mul_one,Dz (0+i*8)]) (by show 1+f.toNat≤8;omega) (x:=XS y f) (by
      rcases SO c2 with rfl|rfl|rfl|rfl|rfl|rfl<;>rfl) ?_
     refine⟨by omega,?_⟩;refine mE h ⟨some ⟨b,0⟩,8,8⟩ i (1+f.toNat) y z hy (by show(⟨b,0+i*8+1+f.toNat*1⟩:Pt)=⟨b,0+i*8+(1+f.toNat)⟩;rw[Nat.mul_one,Dz (0+i*8)]) (by show 1+f.toNat+1≤8;omega) (by simp) (hz f rfl) λw h=>?_;rw[Hr,e0]at h;exact au.aH e1.symm (toL _ h)
    refine aS h (λ_=>aQ ⟨some ⟨b,0⟩,8,8⟩ Pu ((rows l).set i (if f=0 then wait (l i) (inc (tF (l i)))else wait (l i) (dec (tF (l i)))))^bg) (λ_=>f=0∨tF (l i)≠0) (λ_ w hj h=>?_) ?_
    ·by_cases c3:f=0
     ·rw[aF c3]at h;have e1:iV (l i) f=(0,ug (wait (l i) (inc (tF (l i)))) f):=by unfold iV;rw[aw c2,aF c3]
      refine step (wait (l i) (inc (tF (l i)))) (ug (wait (l i) (inc (tF (l i)))) f) (λ_ _=>?_) h (by rw[e1]) (by rw[e1]);rw[c3];rfl
     ·rw[aw c3]at h;have hw:¬tF (l i)=0:=λx=>hj.elim c3 λy=>y x;have e1:iV (l i) f=(0,ug (wait (l i) (dec (tF (l i)))) f):=by unfold iV;rw[aw c2,aw c3,aw hw]
      refine step (wait (l i) (dec (tF (l i)))) (ug (wait (l i) (dec (tF (l i)))) f) (λ_ _=>?_) h (by rw[e1]) (by rw[e1]);rcases SO c2 with rfl|rfl|rfl|rfl|rfl|rfl<;>rfl
    ·refine ae (λc=>?_) λ_=>?_
     ·have c:f<0∨f≥6:=cS;exact absurd c c2
     refine ae (λc3=>?_) λc3=>?_
     ·have c3:f=0:=(by simpa using c3);refine ac (eh h ⟨some ⟨b,0⟩,8,8⟩ i 7 (l i) (wh l hi) rfl (by decide) (x:=tF (l i)) rfl (ac ?_));refine mE h ⟨some ⟨b,0⟩,8,8⟩ i 7 (l i) (wait (l i) (inc (tF (l i)))) (wh l hi) rfl (by show 7+1≤8;decide) (by simp) rfl λw h=>?_;exact⟨.inl c3,by rw[aF c3];exact h⟩
     ·have c3:¬f=0:=(by simpa using c3);refine ac (eh h ⟨some ⟨b,0⟩,8,8⟩ i 7 (l i) (wh l hi) rfl (by decide) (x:=tF (l i)) rfl ?_);refine ae (λc4=>?_) λc4=>?_
      ·have c4:tF (l i)=0:=(by simpa using c4);rw[show iV (l i) f=(7,l i) by unfold iV;rw[aw c2,aw c3,aF c4]];exact au.aH rfl (same h)
      ·have c4:¬tF (l i)=0:=(by simpa using c4);refine ac (eh h ⟨some ⟨b,0⟩,8,8⟩ i 7 (l i) (wh l hi) rfl (by decide) (x:=tF (l i)) rfl (ac ?_));refine mE h ⟨some ⟨b,0⟩,8,8⟩ i 7 (l i) (wait (l i) (dec (tF (l i)))) (wh l hi) rfl (by show 7+1≤8;decide) (by simp) rfl λw h=>?_;exact⟨.inr c4,by rw[aw c3];exact h⟩
end A1

namespace yM
open bK bp lJ mh fe xQ A1
open eC (Sk cm cv eG iz iU c_ bu)
abbrev mL(c:Cf)(ck:Nat)(p:Nat→bO)(q l:Nat):List Lf:=[aJ (cQ c),aJ (cF c),aJ (cL c),aJ (cW c),aC (cH c),aC (cR c),a_ (cD c),aJ (jU c),aJ (jz c),.ptr (some ⟨ck,0⟩),.ptr (p 0),.ptr (p 1),.ptr (p 2),.ptr (p 3),.ptr (p 4),.ptr (p 5),.ptr (p 6),.ptr (p 7),.ptr (some ⟨q,0⟩),.ptr (some ⟨l,0⟩)]
theorem SR(c ck p q l i)(hi:i<8):Ks.un [.ptr] (((mL c ck p q l).drop (0+10+i*1)).take 1)=some (p i):=by rcases SQ hi with rfl|rfl|rfl|rfl|rfl|rfl|rfl|rfl<;>rfl
theorem SS(c ck p q l i)(hi:i<8)(x):dE (mL c ck p q l) (0+10+i*1) [.ptr x]=mL c ck (wJ p i x) q l:=by rcases SQ hi with rfl|rfl|rfl|rfl|rfl|rfl|rfl|rfl<;>rfl
def RX(p:bO)(x:Option Sk):SP:=match x with
 |none=>br (p=none) bg
 |some f=>ex λa:Nat=>br (p=some ⟨a,0⟩) (mP a f)
instance(p:bO)(x:Option Sk):nt (RX p x):=by unfold RX;split<;>infer_instance
abbrev Zf(p:Nat→bO)(fl:Nat→Option Sk):Nat→SP:=λj=>RX (p j) (fl j)
abbrev oJ(p:Nat→bO)(fl:Nat→Option Sk):SP:=eB (Zf p fl) 8
abbrev u9(p:Nat→bO)(fl:Nat→Option Sk)(i:Nat):SP:=eB (tI (Zf p fl) i) 8
def gW(b:Nat)(v:Mc):SP:=ex λx:(Nat→bO)×Nat×Nat×Nat=>ah b (mL v.c x.2.1 x.1 x.2.2.1 x.2.2.2)^ah x.2.1 [aC v.af]^qN x.2.2.1 v.q^uX x.2.2.2 v.l^oJ x.1 v.so
instance(b:Nat)(v:Mc):nt (gW b v):=by unfold gW;infer_instance
section
variable {w0 w:World} {S0 R0:Nat→Prop} {F G:SP}
theorem _root_.Go.X.au.gW(h:au w0 S0 R0 w F)(b)[tk:ou yM.gW b F v G]:∃(p:Nat→bO) (ck q l:Nat),au w0 S0 R0 w (ah b (mL v.c ck p q l)^ah ck [aC v.af]^qN q v.q^uX l v.l^oJ p v.so^G):=by
 obtain⟨s,h⟩:=(h.le tk.le).lS;exact⟨s.1,s.2.1,s.2.2.1,s.2.2.2,h.aK⟩
theorem _root_.Go.X.au.lW(h:au w0 S0 R0 w F)(b p ck q l v)[tk:Take (ah b (mL v.c ck p q l)^ah ck [aC v.af]^qN q v.q^uX l v.l^oJ p v.so) F G]:au w0 S0 R0 w (yM.gW b v^G):=
 au.tH (f:=λx:(Nat→bO)×Nat×Nat×Nat=>ah b (mL v.c x.2.1 x.1 x.2.2.1 x.2.2.2)^ah x.2.1 [aC v.af]^qN x.2.2.1 v.q^uX x.2.2.2 v.l^oJ x.1 v.so) (p,ck,q,l) (h.le tk.le)
theorem _root_.Go.X.au.NA(h:au w0 S0 R0 w F)(p:Nat→bO)(fl:Nat→Option Sk){i:Nat}(hi:i<8){f:Sk}(hf:fl i=some f)[tk:Take (oJ p fl) F G]:∃a,p i=some ⟨a,0⟩∧au w0 S0 R0 w (mP a f^u9 p fl i^G):=by
 have h:au w0 S0 R0 w ((RX (p i) (fl i)^u9 p fl i)^G):=(h.le tk.le).le (ba (oW _ hi) Le.rfl);have h:=h.le (bS _ _ _);rw[hf]at h;obtain⟨a,h⟩:=au.lS (f:=λa:Nat=>br (p i=some ⟨a,0⟩) (mP a f)) h;obtain⟨hp,h⟩:=h.aP;exact⟨a,hp,h⟩
theorem _root_.Go.X.au.Ze(h:au w0 S0 R0 w F)(p fl)(hi:i<8)(hf:fl i=none)[tk:Take (oJ p fl) F G]:p i=none∧au w0 S0 R0 w (u9 p fl i^G):=by
 have h:au w0 S0 R0 w ((RX (p i) (fl i)^u9 p fl i)^G):=(h.le tk.le).le (ba (oW _ hi) Le.rfl);have h:=h.le (bS _ _ _);rw[hf]at h;obtain⟨hp,h⟩:=au.aP (p:=p i=none) (A:=bg) h;exact⟨hp,h.drop⟩
theorem Ii(p q fl gl i)(hp:∀j,j≠i→q j=p j)(hf:∀j,j≠i→gl j=fl j):u9 q gl i=u9 p fl i:=iw 8 λj _=>by
 unfold tI;split
 ·rfl
 ·rename_i e;show RX _ _=RX _ _;rw[hp j e,hf j e]
theorem _root_.Go.X.au.W9(h:au w0 S0 R0 w F)(p fl)(hi:i<8)(q gl a f)(hp:∀j,j≠i→q j=p j)(hf:∀j,j≠i→gl j=fl j)(hq:q i=some ⟨a,0⟩)(hg:gl i=some f)[tk:Take (mP a f^u9 p fl i) F G]:au w0 S0 R0 w (oJ q gl^G):=by
 have h:=(h.le tk.le).le (bS _ _ _);have h:au w0 S0 R0 w (RX (q i) (gl i)^u9 p fl i^G):=by
  rw[hg];exact au.tH (f:=λa:Nat=>br (q i=some ⟨a,0⟩) (mP a f)) a (au.je hq h)
 rw[←Ii p q fl gl i hp hf]at h;exact(h.le (dh _ _ _)).le (ba (rR (Zf q gl) hi) Le.rfl)
theorem _root_.Go.X.au.aaf(h:au w0 S0 R0 w F)(p fl)(hi:i<8)(q gl)(hp:∀j,j≠i→q j=p j)(hf:∀j,j≠i→gl j=fl j)(hq:q i=none)(hg:gl i=none)[tk:Take (u9 p fl i) F G]:au w0 S0 R0 w (oJ q gl^G):=by
 have h:=(h.le tk.le);have h:au w0 S0 R0 w (RX (q i) (gl i)^u9 p fl i^G):=by
  rw[hg];exact au.je (p:=q i=none) (A:=bg) hq (h.le ((aG _).trans (aU _ _)))
 rw[←Ii p q fl gl i hp hf]at h;exact(h.le (dh _ _ _)).le (ba (rR (Zf q gl) hi) Le.rfl)
theorem aai(h:au w0 S0 R0 w F)(p fl)(hi:i<8)[tk:Take (oJ p fl) F G]:(p i).isNone=(fl i).isNone:=by
 cases hf:fl i with
 |none=>rw[(h.Ze p fl hi hf).1];rfl
 |some f=>obtain⟨a,ha,_⟩:=h.NA p fl hi hf;rw[ha];rfl
end
structure jp(k:Int)(v:Mc):Prop where
 c:yq v.c
 af:0≤v.af∧v.af≤4611686018427387904
 q:iM v.q
 so:∀i x,v.so i=some x→nz.pw k x∧x.id=(i:Int)∧i<8
 kr:0≤k∧k≤1000000
theorem jp.un{k:Int}(h:jp k v):U v.af:=by have:=h.af;unfold U;omega
theorem qh(b:Nat)(c:Cf)(p:Nat→bO)(ck q l:Nat)(af:Int):bx (VB (some ⟨b,0⟩)) (ah b (mL c ck p q l)^ah ck [aC af]) (λr=>br (r=af) (ah b (mL c ck p q l)^ah ck [aC af])):=
 bF λw0 S R h=>by
  refine ae (λc=>(by simp at c)) λ_=>?_;refine ac (aj (x:=some ⟨ck,0⟩) h rfl (aI (Rt ck af) h λw h=>?_));exact au.aH rfl h.aK
theorem VY(i:Int):bx (ZX i) bg (λr=>br (r=decide (0≤i∧i<8)) bg):=
 bF λw0 S R h=>by
  refine au.aH ?_ h;rw[jH];simp
abbrev Yj:fQ.St:=(0,0,0,0,0,0,0,0,false,false)
end yM

namespace qA
open bK bp fh lJ mh fe xQ A1 yM
open eC (Sk cm cv eG iz iU c_ bu)
theorem Au(so)(h:i<8):(b_ so)[i]?=some (qx (so i)):=by rcases SQ h with rfl|rfl|rfl|rfl|rfl|rfl|rfl|rfl<;>rfl
theorem v8{k:Int}(hv:jp k v):∀x∈b_ v.so,U x:=by
 have one:∀i,U (qx (v.so i)):=λi=>by
  unfold qx;split
  ·exact⟨by decide,by decide⟩
  ·rename_i x hx;exact(hv.so i x hx).1.i.ok.md.aY
 intro x hx;obtain⟨i,hi⟩:=tQ.1 hx;have hi8:i<8:=by have:=(ie.1 hi).1;exact this
 rw[Au v.so hi8]at hi;cases hi;exact one i
abbrev KP8:Ks:=[.ptr,.ptr,.ptr,.ptr,.ptr,.ptr,.ptr,.ptr]
abbrev p8(p:Nat→bO):Ks.T KP8:=(p 0,p 1,p 2,p 3,p 4,p 5,p 6,p 7)
theorem Yr(p)(h:i<8):Ks.mk [.ptr] (p i)=((Ks.mk KP8 (p8 p)).drop (i*1)).take 1:=by rcases SQ h with rfl|rfl|rfl|rfl|rfl|rfl|rfl|rfl<;>rfl
theorem xE(b)(k:Int)(v)(hv:jp k v)(p ck q l):bx (XQ (some ⟨b,0⟩)) (ah b (mL v.c ck p q l)^oJ p v.so) (λr=>aQ r KU (b_ v.so)^ah b (mL v.c ck p q l)^oJ p v.so):=
 bF λw0 S R h=>by
  refine ac (aj (x:=p8 p) h rfl ?_);have h:=h.nil KU;have h:au w0 S R w0 (aQ ⟨none,0,0⟩ KU ((b_ v.so).take 0)^ah b (mL v.c ck p q l)^oJ p v.so):=h;refine fV (λ(y:Sl×Int) (_:Unit)=>aQ y.1 KU ((b_ v.so).take y.2.toNat)^ah b (mL v.c ck p q l)^oJ p v.so) (λ(y:Sl×Int) _=>0≤y.2∧y.2≤8) (λ(y:Sl×Int) _=>(8-y.2).toNat) () h ⟨by decide,by decide⟩ ?_;rintro K (y:Sl×Int) _ w ⟨h0,h1⟩ h k;obtain⟨s,i⟩:=y;dsimp only at h0 h1 h⊢;refine ae (λc=>?_) λc=>?_
  ·have c:i<8:=bZ c;have hi8:i.toNat<8:=(by omega);have hwi:i64.wrap (i+1)=i+1:=fu;have hin:(i+1).toNat=i.toNat+1:=(by omega);refine⟨⟨h0,c⟩,p i.toNat,Yr p hi8,?_⟩;rw[hwi];have hlen:((b_ v.so).take i.toNat).length=i.toNat:=(by rw[fU];show min i.toNat 8=_;omega);refine aS h (λ_=>aQ s KU ((b_ v.so).take i.toNat)^ah b (mL v.c ck p q l)^oJ p v.so) (λr:Int=>r=qx (v.so i.toNat)) (λ(r:Int) w hr h=>?_) ?_
   ·refine aD h λn9 w h=>?_;have h:=h.ct n9 KU [r] rfl (by simp);have h:au w0 S R w (aQ ⟨some ⟨n9,0⟩,1,1⟩ KU [r]^_):=h;refine dF (K:=KU) (s:=s) (xs:=(b_ v.so).take i.toNat) h rfl (by rw[hlen];simp only[gO];omega) λs' w _ h=>?_;have e:(b_ v.so).take i.toNat++[r]=(b_ v.so).take (i+1).toNat:=by rw[hin,lC,Au v.so hi8,hr];rfl
    rw[e]at h;exact k (s',i+1) () w ⟨by show 0≤i+1;omega,by show i+1≤8;omega⟩ h.aK (by show(8-(i+1)).toNat<(8-i).toNat;omega)
   ·cases hs:v.so i.toNat with
    |none=>
     obtain⟨hp,_⟩:=h.Ze p v.so hi8 hs;rw[hp];refine ae (λc=>(by simp at c)) λ_=>?_;exact⟨rfl,h⟩
    |some x=>
     obtain⟨a,hp,h⟩:=h.NA p v.so hi8 hs;rw[hp];refine ae (λ_=>?_) λc=>(by simp at c);refine aI (fe.Kg a x) h λw h=>?_;have h:=h.W9 p v.so hi8 p v.so a x (λ_ _=>rfl) (λ_ _=>rfl) hp hs;exact⟨rfl,h.aK⟩
  ·have c:¬i<8:=cd c;have e:(b_ v.so).take i.toNat=b_ v.so:=kF (by show 8≤i.toNat;omega);rw[e]at h;exact h
abbrev KI:Ks:=[.int .i64]
def fH(a:Nat)(o:Ou):SP:=ex λs:Sl×Sl×Sl=>ah a [aX s.1,aX s.2.1,aX s.2.2,aC o.wd]^aQ s.1 KS o.qY^aQ s.2.1 KS o.dr^aQ s.2.2 KI o.ft
instance(a:Nat)(o:Ou):nt (fH a o):=by unfold fH;infer_instance
section
variable {w0 w:World} {S0 R0:Nat→Prop} {F G:SP}
theorem _root_.Go.X.au.fH(h:au w0 S0 R0 w F)(b)[tk:ou qA.fH b F v G]:∃(s1 s2 s3:Sl),au w0 S0 R0 w (ah b [aX s1,aX s2,aX s3,aC v.wd]^aQ s1 KS v.qY^aQ s2 KS v.dr^aQ s3 KI v.ft^G):=by
 obtain⟨s,h⟩:=(h.le tk.le).lS;exact⟨s.1,s.2.1,s.2.2,h.aK⟩
theorem _root_.Go.X.au.xn(h:au w0 S0 R0 w F)(b s1 s2 s3 v)[tk:Take (ah b [aX s1,aX s2,aX s3,aC v.wd]^aQ s1 KS v.qY^aQ s2 KS v.dr^aQ s3 KI v.ft) F G]:au w0 S0 R0 w (qA.fH b v^G):=
 au.tH (f:=λs:Sl×Sl×Sl=>ah b [aX s.1,aX s.2.1,aX s.2.2,aC v.wd]^aQ s.1 KS v.qY^aQ s.2.1 KS v.dr^aQ s.2.2 KI v.ft) (s1,s2,s3) (h.le tk.le)
end
def NH(m o:Nat)(n6:Nat)(is:Bool)(R:WP):WP:=
 ar is (
 bQ<|
 az (some ⟨m,0⟩) λq7=>
 ld [.int .i64] ⟨n6,0⟩ λ(x8:Int)=>
 ld [.ptr] ⟨q7.b,q7.o+19⟩ λ(x9:bO)=>
 call Tryz.prog rK [.lf (.ptr x9),.lf (.int .i64 x8),.lf (.int .i64 (1:Int))] [.lf (.int .i64)] λ(r10:Int)=>
 ld KS ⟨n6,0⟩ λ(x11:Sg)=>
 new [aJ x11.1,aC x11.2.1,aJ x11.2.2.1,aC x11.2.2.2.1,a_ x11.2.2.2.2] λn12=>
 az (some ⟨o,0⟩) λq13=>
 st q13 [aX ⟨some ⟨n12,0⟩,1,1⟩]<|
 R)<|
 az (some ⟨m,0⟩) λq14=>
 ld [.ptr] ⟨q14.b,q14.o+18⟩ λ(x15:bO)=>
 call Tryz.prog tC [.lf (.ptr x15)] [.lf (.int .u64),.lf .bool] λ(r16:Int×Bool)=>
 ar r16.2 (
 az (some ⟨o,0⟩) λq17=>
 st ⟨q17.b,q17.o+3⟩ [aC (if(1:Int)>r16.1 then(1:Int)else r16.1)]<|
 R)<|
 R
theorem R9{w0 w:World}{S0 R0:Nat→Prop}{G:SP}{R:WP}{b a n6 ck q l:Nat}{p:Nat→bO}{v:Mc}{o:Ou}
  (h:au w0 S0 R0 w (ah n6 (Ks.mk KS (yp.Bm (gU v.q v.af (b_ v.so)).1).1)^(ah b (mL ({v with q:=(gU v.q v.af (b_ v.so)).2}).c ck p q l)^ah ck [aC ({v with q:=(gU v.q v.af (b_ v.so)).2}).af]^qN q ({v with q:=(gU v.q v.af (b_ v.so)).2}).q^uX l ({v with q:=(gU v.q v.af (b_ v.so)).2}).l^oJ p ({v with q:=(gU v.q v.af (b_ v.so)).2}).so)^fH a o^G))
  (k:∀w',au w0 S0 R0 w' (gW b (fx v o).2^fH a (fx v o).1^G)→R w'):NH b a n6 (yp.Bm (gU v.q v.af (b_ v.so)).1).2 R w:=by
 unfold NH;cases hd:gU v.q v.af (b_ v.so)with
 |mk x q'=>
 rw[hd]at h;dsimp only at h⊢;cases x with
 |some s=>
  have e:fx v o=({o with qY:=[s]},{v with q:=q',l:=(gu v.l (sK s) 1).2}):=by unfold fx;rw[hd]
  rw[e]at k;refine ae (λ_=>?_) λc=>(by cases c);refine aM h λw h=>ac (aj (x:=sK s) h rfl (aj (x:=some ⟨l,0⟩) h rfl (aq (zK l v.l (sK s) 1) h λr w h=>?_)));obtain⟨_,h⟩:=h.aP;refine ay (b:=n6) (x:=s) h rfl (aD h λn12 w h=>?_);have h:=h.ct n12 KS [s] rfl (by simp);have h:au w0 S0 R0 w (aQ ⟨some ⟨n12,0⟩,1,1⟩ KS [s]^_):=h;obtain⟨s1,s2,s3,h⟩:=h.fH a;refine ac (aB h a [aX ⟨some ⟨n12,0⟩,1,1⟩,aX s2,aX s3,aC o.wd] rfl rfl rfl λw h=>?_);have h:=h.xn a ⟨some ⟨n12,0⟩,1,1⟩ s2 s3 {o with qY:=[s]};have h:=h.lW b p ck q l {v with q:=q',l:=(gu v.l (sK s) 1).2};exact k w h.aK
 |none=>
  refine ae (λc=>(by cases c)) λ_=>?_;refine ac (aj (x:=some ⟨q,0⟩) h rfl (aI (Ea.C3 q q') h λw h=>?_));dsimp only;refine ae (λc=>?_) λc=>?_
  ·have e:fx v o=({o with wd:=if 1>(lq q'.ks).1.1 then 1 else(lq q'.ks).1.1},{v with q:=q'}):=(by unfold fx;rw[hd];dsimp only;rw[if_pos c]);rw[e]at k;obtain⟨s1,s2,s3,h⟩:=h.fH a;refine ac (aB h a [aX s1,aX s2,aX s3,aC (if(1:Int)>(lq q'.ks).1.1 then(1:Int)else(lq q'.ks).1.1)] rfl rfl rfl λw h=>?_);have h:=h.xn a s1 s2 s3 {o with wd:=if 1>(lq q'.ks).1.1 then 1 else(lq q'.ks).1.1};have h:=h.lW b p ck q l {v with q:=q'};exact k w h.aK
  ·have e:fx v o=(o,{v with q:=q'}):=(by unfold fx;rw[hd];dsimp only;rw[if_neg (by rw[c];simp)]);rw[e]at k;have h:=h.lW b p ck q l {v with q:=q'};exact k w h.aK
theorem nq(h:A w)(k:B w):both A B w:=⟨h,k⟩
theorem NI(b a)(k:Int)(v)(hv:jp k v)(o):bx (ZO (some ⟨b,0⟩) (some ⟨a,0⟩)) (gW b v^fH a o) (λ_=>gW b (fx v o).2^fH a (fx v o).1):=
 bF λw0 S R h=>by
  obtain⟨p,ck,q,l,h⟩:=(h.le (aG _)).gW b;have hU:=v8 hv;have zS:List Lf:=[aJ 0,aC 0,aJ 0,aC 0,a_ false];have aK:∀{w:World} {n6:Nat},au w0 S R w (ah n6 (Ks.mk KS (yp.Bm (gU v.q v.af (b_ v.so)).1).1)^(ah b (mL ({v with q:=(gU v.q v.af (b_ v.so)).2}).c ck p q l)^ah ck [aC ({v with q:=(gU v.q v.af (b_ v.so)).2}).af]^qN q ({v with q:=(gU v.q v.af (b_ v.so)).2}).q^uX l ({v with q:=(gU v.q v.af (b_ v.so)).2}).l^oJ p ({v with q:=(gU v.q v.af (b_ v.so)).2}).so)^fH a o^bg)→NH b a n6 (yp.Bm (gU v.q v.af (b_ v.so)).1).2 (λw=>au w0 S R w (gW b (fx v o).2^fH a (fx v o).1)) w:=λ{w n6} h=>R9 h λw' h=>h.aK;refine aM h λw h=>ac (aj (x:=some ⟨q,0⟩) h rfl (nq ?_ ?_))
  ·refine aI (qh b v.c p ck q l v.af) h λw h=>?_;refine aN h rfl (nq ?_ ?_)
   ·refine aq (xE b k v hv p ck q l) h λr w h=>?_;refine aN h rfl (nq ?_ ?_)
    ·refine bR (A:=qN q v.q) (Q:=aZ r KU (b_ v.so)) (yp.yt q v.q hv.q v.af hv.un r (b_ v.so) hU) h λr w h=>?_;obtain⟨hr,h⟩:=h.aP;rw[hr];refine aD h λn6 w h=>aN h rfl (aA h (by rfl) λw h=>?_);exact aK h.aK
    ·refine aD h λn6 w h=>aN h rfl ?_;refine bR (A:=qN q v.q) (Q:=aZ r KU (b_ v.so)) (yp.yt q v.q hv.q v.af hv.un r (b_ v.so) hU) h λr w h=>?_;obtain⟨hr,h⟩:=h.aP;rw[hr];refine aA h (by rfl) λw h=>?_;exact aK h.aK
   ·refine aD h λn6 w h=>aN h rfl ?_;refine aq (xE b k v hv p ck q l) h λr w h=>?_;refine aN h rfl ?_;refine bR (A:=qN q v.q) (Q:=aZ r KU (b_ v.so)) (yp.yt q v.q hv.q v.af hv.un r (b_ v.so) hU) h λr w h=>?_;obtain⟨hr,h⟩:=h.aP;rw[hr];refine aA h (by rfl) λw h=>?_;exact aK h.aK
  ·refine aD h λn6 w h=>aN h rfl ?_;refine aI (qh b v.c p ck q l v.af) h λw h=>?_;refine aN h rfl ?_;refine aq (xE b k v hv p ck q l) h λr w h=>?_;refine aN h rfl ?_;refine bR (A:=qN q v.q) (Q:=aZ r KU (b_ v.so)) (yp.yt q v.q hv.q v.af hv.un r (b_ v.so) hU) h λr w h=>?_;obtain⟨hr,h⟩:=h.aP;rw[hr];refine aA h (by rfl) λw h=>?_;exact aK h.aK
end qA

namespace A2
open bK bp fh lJ mh fe xQ A1 yM qA
open eC (Sk cm cv eG iz iU c_ bu dW)
open Bx (Jr gN gF gS gA BG)
open pY (nh qm zB)
open nz (pw)
theorem ov(b a c p ck q l L o s)(f:Int)(hl:o.dr.length≤1000∧o.ft.length≤1000):bx (PV (some ⟨b,0⟩) (some ⟨a,0⟩) s f)
  (ah b (mL c ck p q l)^uX l L^fH a o) (λ_=>ah b (mL c ck p q l)^uX l (cj L o s f).2^fH a (cj L o s f).1):=
 bF λw0 S R h=>by
  refine aD (h.le (aG _)) λn1 w h=>aM h λw h=>ac (aj (x:=sK s) h rfl (aj (x:=some ⟨l,0⟩) h rfl (aq (zK l L (sK s) f) h λr w h=>?_)));obtain⟨_,h⟩:=h.aP;obtain⟨s1,s2,s3,h⟩:=h.fH a;have hl2:o.dr.length+[s].length≤4294967296:=by have:=hl.1;simp only[gO];omega
  have hl3:o.ft.length+[f].length≤4294967296:=by have:=hl.2;simp only[gO];omega
  have aK:∀{w:World} {t2 t3:Sl},au w0 S R w (aQ t3 KI (o.ft++[f])^aQ t2 KS (o.dr++[s])^ah a [aX s1,aX s2,aX s3,aC o.wd]^aQ s1 KS o.qY^ah b (mL c ck p q l)^uX l (gu L (sK s) f).2^bg)→
    (az (some ⟨a,0⟩) λq15=>st ⟨q15.b,q15.o+1⟩ [aX t2]<|az (some ⟨a,0⟩) λq16=>st ⟨q16.b,q16.o+2⟩ [aX t3]<|λw=>au w0 S R w (ah b (mL c ck p q l)^uX l (cj L o s f).2^fH a (cj L o s f).1)) w:=by
   intro w t2 t3 h;refine ac (aB h a [aX s1,aX t2,aX s3,aC o.wd] rfl rfl rfl λw h=>?_);refine ac (aB h a [aX s1,aX t2,aX t3,aC o.wd] rfl rfl rfl λw h=>?_);have h:=h.xn a s1 t2 t3 {o with dr:=o.dr++[s],ft:=o.ft++[f]};exact h.aK (A:=ah b (mL c ck p q l)^uX l (gu L (sK s) f).2^fH a {o with dr:=o.dr++[s],ft:=o.ft++[f]})
  refine aM h λw h=>ay (b:=n1) (x:=s) h rfl (ac (ac (aj (x:=s2) h rfl (aj (x:=s3) h rfl (nq ?_ ?_)))))
  ·refine aD h λn11 w h=>aN h rfl (aN h rfl (nq ?_ ?_))
   ·have h:=h.ct n11 KS [s] rfl (by simp);have h:au w0 S R w (aQ ⟨some ⟨n11,0⟩,1,1⟩ KS [s]^_):=h;refine dF (K:=KS) (s:=s2) (xs:=o.dr) h rfl hl2 λt2 w _ h=>?_;refine aN h rfl (aD h λn13 w h=>aN h rfl (aN h rfl (aO (b:=n1) h ?_)));have h:=h.ct n13 KI [f] rfl (by simp);have h:au w0 S R w (aQ ⟨some ⟨n13,0⟩,1,1⟩ KI [f]^_):=h;refine dF (K:=KI) (s:=s3) (xs:=o.ft) h rfl hl3 λt3 w _ h=>?_;exact aK h.aK
   ·refine aD h λn17 w h=>aN h rfl (aN h rfl (aO (b:=n1) h ?_));have h:=h.ct n11 KS [s] rfl (by simp);have h:au w0 S R w (aQ ⟨some ⟨n11,0⟩,1,1⟩ KS [s]^_):=h;refine dF (K:=KS) (s:=s2) (xs:=o.dr) h rfl hl2 λt2 w _ h=>?_;refine aN h rfl ?_;have h:=h.ct n17 KI [f] rfl (by simp);have h:au w0 S R w (aQ ⟨some ⟨n17,0⟩,1,1⟩ KI [f]^_):=h;refine dF (K:=KI) (s:=s3) (xs:=o.ft) h rfl hl3 λt3 w _ h=>?_;exact aK h.aK
  ·refine aD h λn22 w h=>aN h rfl (aN h rfl (aO (b:=n1) h (aD h λn23 w h=>aN h rfl (aN h rfl ?_))));have h:=h.ct n23 KS [s] rfl (by simp);have h:au w0 S R w (aQ ⟨some ⟨n23,0⟩,1,1⟩ KS [s]^_):=h;refine dF (K:=KS) (s:=s2) (xs:=o.dr) h rfl hl2 λt2 w _ h=>?_;refine aN h rfl ?_;have h:=h.ct n22 KI [f] rfl (by simp);have h:au w0 S R w (aQ ⟨some ⟨n22,0⟩,1,1⟩ KI [f]^_):=h;refine dF (K:=KI) (s:=s3) (xs:=o.ft) h rfl hl3 λt3 w _ h=>?_;exact aK h.aK
theorem WQ{k:Int}{af:Int}(hv:nh k v)(hv':nh k v')(hw:Jr v af g v'):0≤gF g∧gF g+gN g≤4611686018427387904:=by
 have b1:=hv'.ok.bf.nw;have b2:=hv'.ok.bf.w;have b3:=hv.ok.bf.u;have b4:=hv.ok.bf.un;cases hx:gA g with
 |false=>
  obtain⟨n1,n2,_⟩:=hw.new hx;have:eX.bN v'.bf=eX.bN v.bf+gN g:=by rw[n2]
  rw[n1];omega
 |true=>
  obtain⟨_,n2,_⟩:=hw.Nv hx;obtain⟨z,hz,ez⟩:=zB (l:=v.bd.1) (by rw[n2]);have hzo:=hv.pc z hz;rw[n2]at ez;have e1:gF g=fg.jc z:=dm Prod.fst ez;have e2:gF g+gN g=fg.x5 z:=dm Prod.snd ez;have:=hzo.f;have:=hzo.t;omega
theorem Ik{α:Type}{f:α→Bool}:∀{l:List α} {i:Nat} {p q:α},l[i]?=some p→f p=true→f q=false→(l.set i q).countP f+1=l.countP f
 |[],_,_,_,h,_,_=>by cases h
 |a::l,0,p,q,h,hp,hq=>by
  cases h;rw[List.set_cons_zero,N2 (by rw[hq];simp),List.countP_cons_of_pos hp]
 |a::l,i+1,p,q,h,hp,hq=>by
  have:=Ik (l:=l) (i:=i) (p:=p) (q:=q) Zg hp hq;rw[List.set_cons_succ,List.countP_cons,List.countP_cons];omega
theorem GH{k:Int}{af:Int}(hv:nh k v)(hv':nh k v')(hw:Jr v af g v'):fresh v'<fresh v:=by
 have b1:=hv'.ok.bf.nw;have hn:=hw.n;have e0:fresh v'=(eX.bW v'.bf-eX.bN v'.bf).toNat+v'.bd.1.countP (λp=>fg.jP p):=rfl;have e1:fresh v=(eX.bW v.bf-eX.bN v.bf).toNat+v.bd.1.countP (λp=>fg.jP p):=rfl;rw[e0,e1];cases hx:gA g with
 |false=>
  obtain⟨_,n2,_,_,n5⟩:=hw.new hx;have f1:eX.bN v'.bf=eX.bN v.bf+gN g:=by rw[n2]
  have f2:eX.bW v'.bf=eX.bW v.bf:=by rw[n2]
  have f3:v'.bd.1.countP (λp=>fg.jP p)=v.bd.1.countP (λp=>fg.jP p):=by
   rw[n5];show(v.bd.1++[_]).countP _=_;rw[List.countP_append,N2 (by show ¬(false=true);simp)];rfl
  rw[f3];omega
 |true=>
  obtain⟨n1,n2,n3⟩:=hw.Nv hx;obtain⟨i,pp,hp,hlo,_,e2⟩:=Bx.IK (l:=v.bd.1) (by rw[n2]);have f3:v'.bd.1.countP (λp=>fg.jP p)+1=v.bd.1.countP (λp=>fg.jP p):=by
   rw[n3];show(fg.dJ v.bd.1 _).countP _+1=_;rw[e2];exact Ik hp hlo rfl
  rw[n1];omega
theorem GG(v)(n:Int):fresh (cv v n).2=fresh v:=by unfold cv;split<;>rfl
theorem sb{k:Int}{v:Sk}(h:pw k v){af:Int}(hn:U af):pw k (cm v af).2:=
 {i:=h.i.emit hn,kr:=h.kr,g:=(nz.Mx v af).1.trans h.g,b:=by rw[(nz.Mx v af).2];exact h.b}
theorem MT{k:Int}(h:pw k v)(n:Int):pw k (cv v n).2:=
 {i:=h.i.done n,kr:=h.kr,g:=by rw[show(cv v n).2.sp=v.sp by unfold cv;split<;>rfl];exact h.g,b:=by rw[show(cv v n).2.md=v.md by unfold cv;split<;>rfl];exact h.b}
structure yN(k i:Int)(s:Pm):Prop where
 v:pw k s.v
 id:s.v.id=i
 q:iM s.q
theorem CI(v)(af:Int):(cm v af).2.id=v.id:=by
 unfold cm;split
 ·exact(Bx.E4 v).id
 ·show(eC.uW v af).2.id=v.id;unfold eC.uW;split<;>rfl
theorem QO(v)(n:Int):(cv v n).2.id=v.id:=by unfold cv;split<;>rfl
theorem wE{k:Int}(h:pw k v){af:Int}(hn:U af)(he:(cm v af).1.2=0):Jr v af (cm v af).1.1 (cm v af).2:=BG h.i hn he
theorem yJ{k:Int}(h:pw k v){af:Int}(hn:U af)(he:(cm v af).1.2=0):U (RR (cm v af).1.1)∧U (uZ (cm v af).1.1):=by
 have hw:=wE h hn he;have hr:=WQ h.i (h.i.emit hn) hw;have h1:=hw.n;refine⟨⟨hr.1,by show gF _<_;omega⟩,?_⟩;show U (gS _);rw[hw.st];exact pY.SA h.i.ok.nx hn
theorem vn{k i af:Int}(h:yN k i s)(hn:U af)(he:(cm s.v af).1.2=0):yN k i (enter i af s).1∧fresh (enter i af s).1.v<fresh s.v:=by
 have hs:=yJ h.v hn he;have hf:=GH h.v.i (h.v.i.emit hn) (wE h.v hn he);unfold enter;dsimp only;split
 ·exact⟨⟨sb h.v hn,(CI _ _).trans h.id,h.q.enq hs hn⟩,hf⟩
 ·exact⟨⟨MT (sb h.v hn) _,(QO _ _).trans ((CI _ _).trans h.id),h.q.enq hs hn⟩,by rw[GG];exact hf⟩
theorem Fk{k i af:Int}(hn:U af):∀(n:Nat) (s:Pm),yN k i s→yN k i (lY i af n s)
 |0,_,h=>h
 |n+1,s,h=>by
  unfold lY;by_cases he:(cm s.v af).1.2=0
  ·rw[aw (λc=>c he)];have h2:=(vn h hn he).1;split
   ·exact Fk hn n _ h2
   ·exact h2
  ·rw[aF he];exact⟨sb h.v hn,(CI _ _).trans h.id,h.q⟩
theorem NK(b a)(k:Int)(v)(hv:jp k v)(i x)(hx:v.so i=some x)(o)(hl:o.dr.length≤999∧o.ft.length≤999):bx (Z1 (some ⟨b,0⟩) (i:Int) (some ⟨a,0⟩)) (gW b v^fH a o) (λ_=>gW b (my v i x o).2^fH a (my v i x o).1):=
 bF λw0 S R h=>by
  obtain⟨hxi,hid,hi⟩:=hv.so i x hx;have hn:=hv.un;obtain⟨p,ck,q,l,h⟩:=(h.le (aG _)).gW b;obtain⟨ap,hp,h⟩:=h.NA p v.so hi hx;have s0:yN k i ⟨x,v.q,v.l,o⟩:=⟨hxi,hid,hv.q⟩;have eit:((i:Nat):Int).toNat=i:=eW i;have hat:Ks.un [.ptr] (((mL v.c ck p q l).drop (0+10+((i:Nat):Int).toNat*1)).take 1)=some (some ⟨ap,0⟩):=by rw[eit,SR v.c ck p q l i hi,hp]
  refine ac ⟨by omega,aj h hat ?_⟩;have aK:∀{w:World} (s:Pm),s=pi i v.af ⟨x,v.q,v.l,o⟩→au w0 S R w (ah b (mL v.c ck p q l)^ah ck [aC v.af]^qN q s.q^uX l s.l^mP ap s.v^u9 p v.so i^fH a s.o^bg)→au w0 S R w (gW b (my v i x o).2^fH a (my v i x o).1):=by
   intro w s hs h;have h:=h.W9 p v.so hi p (gY v.so i (some s.v)) ap s.v (λ_ _=>rfl) (λj hj=>kh v.so _ hj) hp (fm v.so i _);have h:=h.lW b p ck q l {v with so:=gY v.so i (some s.v),q:=s.q,l:=s.l};rw[show my v i x o=(s.o,{v with so:=gY v.so i (some s.v),q:=s.q,l:=s.l}) by unfold my;rw[←hs]];exact h.aK
  have h:au w0 S R w0 (ah b (mL v.c ck p q l)^ah ck [aC v.af]^qN q v.q^uX l v.l^mP ap x^u9 p v.so i^fH a o^bg):=h.aK;refine fV (λ(_:Unit) (s:Pm)=>ah b (mL v.c ck p q l)^ah ck [aC v.af]^qN q s.q^uX l s.l^mP ap s.v^u9 p v.so i^fH a s.o^bg) (λ_ s=>yN k i s∧s.o=o∧∃n,fresh s.v<n∧lY i v.af n s=pi i v.af ⟨x,v.q,v.l,o⟩) (λ_ s=>fresh s.v) ⟨x,v.q,v.l,o⟩ h ⟨s0,rfl,_,xw _,rfl⟩ ?_;rintro K (y:Unit) s w ⟨hs,hso,n,hfn,hN⟩ h next
  cases n with
  |zero=>omega
  |succ n=>
  unfold lY at hN;refine aI (qh b v.c p ck q l v.af) h λw h=>?_;refine aI (pX.My ap s.v hs.v.i.ok (qm hs.v.i.pc) v.af hn) h λw h=>?_;refine aD h λn7 w h=>aA h (by rfl) λw h=>ae (λce=>?_) λce=>?_
  ·have ce:(cm s.v v.af).1.2≠0:=(by simpa using ce);rw[aF ce]at hN;exact aK {s with v:=(cm s.v v.af).2} hN h.aK
  ·have ce:(cm s.v v.af).1.2=0:=(by simpa using ce);rw[aw (λc=>c ce)]at hN;obtain⟨hok,hless⟩:=vn hs hn ce;have hw:=wE hs.v hn ce;have hgs:=yJ hs.v hn ce;have hgn:=hw.n;obtain⟨g,hg⟩:∃g,g=(cm s.v v.af).1.1:=⟨_,rfl⟩;obtain⟨v',hv'⟩:∃v',v'=(cm s.v v.af).2:=⟨_,rfl⟩;have hiv:=sb hs.v hn;have een:enter i v.af s=if(fF s.q g v.af).1.1=0 then(⟨v',(fF s.q g v.af).2,(gu s.l i 0).2,s.o⟩,0)
    else(⟨(cv v' g.2.2.1).2,(fF s.q g v.af).2,(cj (gu s.l i 0).2 s.o g (fF s.q g v.af).1.1).2,(cj (gu s.l i 0).2 s.o g (fF s.q g v.af).1.1).1⟩,1):=by
    rw[hg,hv'];rfl
   rw[←hg]at hw hgs hgn;rw[←hv']at hiv hw;rw[←hg,←hv']at h;refine ac (aj (x:=some ⟨l,0⟩) h rfl (aq (zK l s.l i 0) h λr w h=>?_));obtain⟨_,h⟩:=h.aP;refine aM h λw h=>ay (b:=n7) (x:=g) h rfl (ac (aj (x:=some ⟨q,0⟩) h rfl (aI (qh b v.c p ck q l v.af) h λw h=>?_)));refine aN h rfl (aO (b:=n7) h (aI (F9.QU q s.q hs.q g v.af hgs hn) h λw h=>?_));refine ae (λcf=>?_) λcf=>?_
   ·have cf:(fF s.q g v.af).1.1=0:=(by simpa using cf);rw[aF cf]at een;rw[een]at hN hok hless;rw[aF rfl]at hN;have hless:fresh v'<fresh s.v:=hless;exact next () ⟨v',(fF s.q g v.af).2,(gu s.l i 0).2,s.o⟩ w ⟨hok,hso,n,by show fresh v'<n;omega,hN⟩ h.aK hless
   ·have cf:¬(fF s.q g v.af).1.1=0:=(by simpa using cf);rw[aw cf]at een;rw[een]at hN hok hless;rw[aw (by show ¬(1:Int)=0;decide)]at hN;refine ay (b:=n7) (x:=g) h rfl ?_;refine aq (ov b a v.c p ck q l (gu s.l i 0).2 s.o g (fF s.q g v.af).1.1 (by rw[hso];omega)) h λ_ w h=>?_;refine aj (x:=g.2.2.1) h rfl (aq (fe.EE ap v' hiv.i.ok.out g.2.2.1 (by show gN g<_;omega)) h λr w h=>?_);obtain⟨_,h⟩:=h.aP;exact aK _ hN h.aK
end A2

namespace Cm
open bK bp fh lJ mh fe xQ A1 yM qA A2
open eC (Sk cm cv eG iz iU c_ bu dW)
open pY (nh)
open nz (pw)
theorem ku(c):bx (ZF c) bg (λr=>ex λb:Nat=>br (r=if may c then(some ⟨b,0⟩,0)else(none,13)) (if may c then gW b (eF c)else bg)):=
 bF λw0 S R h=>by
  refine aD (h.le (aG _)) λn1 w h=>ay (b:=n1) (x:=c) h rfl (aq (Ea.ku c) h λr w h=>?_);obtain⟨q,h⟩:=h.lS;obtain⟨hr,h⟩:=h.aP;by_cases hm:may c=true
  ·rw[aF hm]at hr h;rw[hr];refine ae (λcc=>(by cases cc)) λ_=>?_;refine aM h λw h=>ay (b:=n1) (x:=c) h rfl (aq y_ (h.le ((aG _).trans (aU _ _))) λr w h=>?_);obtain⟨ck,h⟩:=h.lS;obtain⟨hr,h⟩:=h.aP;rw[hr];refine aO (b:=n1) h (aq zA (h.le ((aG _).trans (aU _ _))) λr w h=>?_);obtain⟨l,h⟩:=h.lS;obtain⟨hr,h⟩:=h.aP;rw[hr];refine aO (b:=n1) h (aD h λn7 w h=>?_);have h:au w0 S R w (ah n7 (mL c ck (λ_=>none) q l)^_):=h;have e:oJ (λ_=>none) (λ_=>none)=eB (λ_=>br ((none:bO)=none) bg) 8:=rfl;have hall:∀n,Le bg (eB (λ_=>br ((none:bO)=none) bg) n):=λn=>by
    induction n with
    |zero=>exact Le.rfl
    |succ n ih=>exact(aG bg).trans (ba (λ_ _ _ h=>⟨rfl,h⟩) ih)
   have h:au w0 S R w (oJ (λ_=>none) (λ_=>none)^_):=(h.le ((aG _).trans (aU _ _))).le (ba (by rw[e];exact hall 8) Le.rfl);have h:=h.lW n7 (λ_=>none) ck q l (eF c);refine au.gI n7 (au.aH (by rw[aF hm]) ?_);rw[aF hm];exact h.bq
  ·rw[aw hm]at hr h;rw[hr];refine ae (λ_=>?_) λcc=>(by cases cc);refine au.gI 0 (au.aH (by rw[aw hm]) ?_);rw[aw hm];exact h.h_
theorem mQ(b v c):bx (ZP (some ⟨b,0⟩) c) (gW b v) (λr=>br (r=(qT v c).1) (gW b (qT v c).2)):=
 bF λw0 S R h=>by
  refine aD (h.le (aG _)) λn1 w h=>?_;obtain⟨p,ck,q,l,h⟩:=h.gW b;refine aM h λw h=>ay (b:=n1) (x:=c) h rfl (ac (aj (x:=some ⟨q,0⟩) h rfl (aI (Ea.mQ q v.q c) h λw h=>?_)));refine ae (λcc=>?_) λcc=>?_
  ·have cc:(pI v.q c).1=0:=(by simpa using cc);refine ay (b:=n1) (x:=c) h rfl (ac (aB h b (mL c ck p q l) rfl rfl rfl λw h=>?_));rw[show qT v c=(0,{v with q:=(pI v.q c).2,c:=c}) by unfold qT;rw[aF cc]];exact au.aH cc (h.lW b p ck q l {v with q:=(pI v.q c).2,c:=c}).aK
  ·have cc:¬(pI v.q c).1=0:=(by simpa using cc);rw[show qT v c=((pI v.q c).1,{v with q:=(pI v.q c).2}) by unfold qT;rw[aw cc]];exact au.aH rfl (h.lW b p ck q l {v with q:=(pI v.q c).2}).aK
theorem BF(l o a s):dj l o (a++[s])=cj (dj l o a).2 (dj l o a).1 s 5:=by
 induction a generalizing l o with
 |nil=>rfl
 |cons x a ih=>exact ih _ _
theorem xc(l o a):(dj l o a).1.dr.length=o.dr.length+a.length∧(dj l o a).1.ft.length=o.ft.length+a.length:=by
 induction a generalizing l o with
 |nil=>exact⟨rfl,rfl⟩
 |cons x a ih=>
  obtain⟨h1,h2⟩:=ih (cj l o x 5).2 (cj l o x 5).1;have e1:(cj l o x 5).1.dr.length=o.dr.length+1:=by show(o.dr++[x]).length=_;simp
  have e2:(cj l o x 5).1.ft.length=o.ft.length+1:=by show(o.ft++[5]).length=_;simp
  rw[fq];show(dj (cj l o x 5).2 (cj l o x 5).1 a).1.dr.length=_∧(dj (cj l o x 5).2 (cj l o x 5).1 a).1.ft.length=_;omega
theorem w5(hv:iM v)(i:Int):(cz v i).1.length≤512:=by
 unfold cz;split
 ·show([]:List Sg).length≤512;decide
 ·split
  ·show([]:List Sg).length≤512;decide
  ·rename_i f hf;exact(hv.len hf).2
theorem OQ(b a:Nat)(k:Int)(v:Mc)(hv:jp k v)(i:Nat)(hi:i<8)(o:Ou)(hl:o.dr.length≤400∧o.ft.length≤400):bx (ZZ (some ⟨b,0⟩) (i:Int) (some ⟨a,0⟩)) (gW b v^fH a o) (λ_=>gW b (oH v i o).2^fH a (oH v i o).1):=
 bF λw0 S R h=>by
  obtain⟨p,ck,q,l,h⟩:=(h.le (aG _)).gW b;have eit:((i:Nat):Int).toNat=i:=eW i;have h:au w0 S R w0 (u9 p v.so i^ah b (mL v.c ck p q l)^ah ck [aC v.af]^qN q v.q^uX l v.l^fH a o^bg):=by
   cases hs:v.so i with
   |none=>exact(h.Ze p v.so hi hs).2.aK
   |some x=>obtain⟨ap,_,h⟩:=h.NA p v.so hi hs;exact h.drop.aK
  refine ac ⟨by omega,?_⟩;rw[eit];refine aB h b (mL v.c ck (wJ p i none) q l) rfl (by rcases SQ hi with rfl|rfl|rfl|rfl|rfl|rfl|rfl|rfl<;>rfl) (SS v.c ck p q l i hi none) λw h=>?_;have h:=h.aaf p v.so hi (wJ p i none) (gY v.so i none) (λj hj=>AR p none hj) (λj hj=>kh v.so none hj) (sN p i none) (fm v.so i none);refine ac (aj (x:=some ⟨q,0⟩) h rfl (aq (Ea.JS q v.q hv.q (i:Int)) h λr w h=>?_));obtain⟨cl,hcl⟩:∃cl,cl=(cz v.q (i:Int)).1:=⟨_,rfl⟩;have hcn:cl.length≤512:=by rw[hcl];exact w5 hv.q i
  have hrl:=(h.rd (s:=r)).2;rw[←hcl]at hrl h;have h:au w0 S R w (uX l (dj v.l o (cl.take (0:Int).toNat)).2^fH a (dj v.l o (cl.take (0:Int).toNat)).1^aQ r KS cl^ah b (mL v.c ck (wJ p i none) q l)^ah ck [aC v.af]^qN q (cz v.q (i:Int)).2^oJ (wJ p i none) (gY v.so i none)^bg):=h.aK (A:=uX l v.l^fH a o^aQ r KS cl^ah b (mL v.c ck (wJ p i none) q l)^ah ck [aC v.af]^qN q (cz v.q (i:Int)).2^oJ (wJ p i none) (gY v.so i none)^bg);refine fV (λ(y:Int) (_:Unit)=>uX l (dj v.l o (cl.take y.toNat)).2^fH a (dj v.l o (cl.take y.toNat)).1^aQ r KS cl^ah b (mL v.c ck (wJ p i none) q l)^ah ck [aC v.af]^qN q (cz v.q (i:Int)).2^oJ (wJ p i none) (gY v.so i none)^bg) (λ(y:Int) _=>0≤y∧y≤cl.length) (λ(y:Int) _=>(cl.length-y.toNat)) () h ⟨by decide,by omega⟩ ?_;rintro K (y:Int) _ w ⟨h0,h1⟩ h next
  refine ae (λc=>?_) λc=>?_
  ·have c:y<((r.len:Nat):Int):=bZ c;have hy:y.toNat<cl.length:=(by omega);have hwi:i64.wrap (y+1)=y+1:=fu;have hin:(y+1).toNat=y.toNat+1:=(by omega);obtain⟨s,hs⟩:∃s,cl[y.toNat]?=some s:=⟨_,gG hy⟩;obtain⟨d1,d2⟩:=xc v.l o (cl.take y.toNat);have dt:(cl.take y.toNat).length≤512:=(by rw[fU];omega);refine bT (s:=r) h h0 hy (eE h r y.toNat hs rfl (aD h λn9 w h=>aA h (by rfl) λw h=>ay (b:=n9) (x:=s) h rfl ?_));refine aq (ov b a v.c (wJ p i none) ck q l (dj v.l o (cl.take y.toNat)).2 (dj v.l o (cl.take y.toNat)).1 s 5 (by omega)) h λ_ w h=>?_;have e:dj v.l o (cl.take (y+1).toNat)=cj (dj v.l o (cl.take y.toNat)).2 (dj v.l o (cl.take y.toNat)).1 s 5:=(by rw[hin,lC,hs];exact BF _ _ _ _);rw[←e]at h;rw[hwi];exact next (y+1) () w ⟨by omega,by omega⟩ h.aK (by show cl.length-(y+1).toNat<cl.length-y.toNat;omega)
  ·have c:¬y<((r.len:Nat):Int):=cd c;rw[kF (by omega)]at h;have h:=h.lW b (wJ p i none) ck q l {v with so:=gY v.so i none,q:=(cz v.q (i:Int)).2,l:=(dj v.l o cl).2};rw[show oH v i o=((dj v.l o cl).1,{v with so:=gY v.so i none,q:=(cz v.q (i:Int)).2,l:=(dj v.l o cl).2}) by unfold oH;rw[←hcl]];exact h.aK
abbrev KR:Ks:=[.int .u64,.int .u64]
structure H_(d:Dd):Prop where
 l:dL d<9223372036854775808
 u:U (dU d)
 a:U (dA d)
 c:0≤cH (dC d)∧U (cR (dC d))
theorem OZ(ap)(k:Int)(x)(hx:pw k x)(af:Int)(hn:U af)(d)(hd:H_ d)(xs)(hxl:xs.length≤4294967296):bx (Z0 (some ⟨ap,0⟩) d af) (mP ap x^aZ (dR d) KR xs) (λr=>br (r=(dy x af d xs).1) (mP ap (dy x af d xs).2)):=
 bF λw0 S R h=>by
  refine aD (h.le (aG _)) λn1 w h=>aj (x:=dK d) h rfl (ae (λc=>?_) λc=>?_)
  ·have c:dK d=2:=cS;refine aj (x:=dL d) h rfl (aI (K7 ap x hx.i.ok.bf (dL d) hd.l) h λw h=>?_);rw[show dy x af d xs=eG x (dL d) by unfold dy;rw[aF c]];exact au.aH rfl h.aK
  have c:¬dK d=2:=cS;refine ae (λc3=>?_) λc3=>?_
  ·have c3:dK d=3:=(by simpa using c3);refine aj (x:=dU d) h rfl (aj (x:=dR d) h rfl ?_);refine bR (A:=mP ap x) (Q:=aZ (dR d) KR xs) (Lt.OJ ap x hx.i.ok hx.i.ps af (dU d) hn (dR d) xs hxl) h λr w h=>?_;obtain⟨hr,h⟩:=h.aP;rw[hr];rw[show dy x af d xs=ny.nP x af (dU d) xs by unfold dy;rw[aw c,aF c3]];exact au.aH rfl h.aK
  have c3:¬dK d=3:=by simpa using c3
  refine ae (λc4=>?_) λc4=>?_
  ·have c4:dK d=4:=(by simpa using c4);refine aI (oq.K0 ap x hx.i.ok af hn) h λw h=>?_;rw[show dy x af d xs=(0,iz x af) by unfold dy;rw[aw c,aw c3,aF c4]];exact au.aH rfl h.aK
  ·have c4:¬dK d=4:=(by simpa using c4);refine aj (x:=dL d) h rfl (aI (fe.EE ap x hx.i.ok.out (dL d) hd.l) h λw h=>?_);rw[show dy x af d xs=cv x (dL d) by unfold dy;rw[aw c,aw c3,aw c4]];exact au.aH rfl h.aK
end Cm

namespace D2
open bK bp fh lJ mh fe xQ A1 yM qA A2 Cm
open eC (Sk cm cv eG iz iU c_ bu dW)
open pY (nh)
open nz (pw)
theorem R7(l:Nat→α)(i:Nat)(x y:α):gY (gY l i x) i y=gY l i y:=funext λj=>by unfold gY;split<;>rfl
theorem MU{k j:Int}(h:pw k v)(hj:k≤j)(hj2:j≤1000000):pw j v:=
 {i:=h.i.le hj,kr:=by have:=h.kr;omega,g:=h.g,b:=nz.Si h.b (by omega)}
theorem Cn{k j:Int}(h:jp k v)(hj:k≤j)(hj2:j≤1000000):jp j v:=
 {c:=h.c,af:=h.af,q:=h.q,so:=λi x hx=>⟨MU (h.so i x hx).1 hj hj2,(h.so i x hx).2⟩,kr:=by have:=h.kr;omega}
theorem pq{k:Int}(hx:pw k x)(hk:k<1000000){af:Int}(hn:U af)(d)(xs:List (Int×Int)):pw (k+1) (dy x af d xs).2∧(dy x af d xs).2.id=x.id:=by
 unfold dy;split
 ·exact⟨hx.write hk _,rfl⟩
 ·split
  ·exact⟨hx.Ek hk hn _ _,by unfold ny.nP;split<;>rfl⟩
  ·split
   ·exact⟨hx.yl hk hn,rfl⟩
   ·exact⟨hx.done hk _,by unfold cv;split<;>rfl⟩
theorem DW{k:Int}{v:Mc}(hv:jp k v){i:Nat}(hi:i<8){x:Sk}(hx:pw k x)(hid:x.id=(i:Int)):jp k {v with so:=gY v.so i (some x)}:=by
 have hso:∀j y,gY v.so i (some x) j=some y→pw k y∧y.id=(j:Int)∧j<8:=λj y hy=>by
  by_cases e:j=i
  ·subst e;rw[fm]at hy;cases hy;exact⟨hx,hid,hi⟩
  ·rw[kh _ _ e]at hy;exact hv.so j y hy
 exact{hv with so:=hso}
theorem WE{k:Int}(hv:jp k v)(i):jp k {v with so:=gY v.so i none}:=by
 have hso:∀j y,gY v.so i none j=some y→pw k y∧y.id=(j:Int)∧j<8:=λj y hy=>by
  by_cases e:j=i
  ·subst e;rw[fm]at hy;cases hy
  ·rw[kh _ _ e]at hy;exact hv.so j y hy
 exact{hv with so:=hso}
theorem Rx(b a)(k:Int)(v)(hv:jp k v)(hk:k<1000000)(d)(hd:H_ d)(xs)(hxl:xs.length≤4294967296)(o)(hl:o.dr.length≤400∧o.ft.length≤400):
  bx (ZQ (some ⟨b,0⟩) d (some ⟨a,0⟩)) ((gW b v^fH a o)^aZ (dR d) KR xs) (λr=>br (r=(iI v d xs o).1) (gW b (iI v d xs o).2.2^fH a (iI v d xs o).2.1)):=
 bF λw0 S R h=>by
  refine aD (h.le (aG _)) λn1 w h=>aj (x:=dS d) h rfl (aI (VY (dS d)) (h.le ((aG _).trans (aU _ _))) λw h=>?_);have h:au w0 S R w (ah n1 (Ks.mk KD d)^gW b v^fH a o^aZ (dR d) KR xs^bg):=h.aK;refine ae (λc=>?_) λc=>?_
  ·have c:¬(0≤dS d∧dS d<8):=λhh=>by rw[nM hh]at c;cases c
   rw[show iI v d xs o=(8,o,v) by unfold iI;rw[aF c]];exact au.aH rfl h.aK
  have c:0≤dS d∧dS d<8:=by
   by_cases hh:0≤dS d∧dS d<8
   ·exact hh
   ·rw[tT hh]at c;cases c
  obtain⟨i,hi⟩:∃i:Nat,dS d=(i:Int):=⟨(dS d).toNat,by omega⟩;have hi8:i<8:=by omega
  have eit:((i:Nat):Int).toNat=i:=eW i;have hone:iI v d xs o=match v.so i with
    |none=>if dK d=1 then(0,o,{v with so:=gY v.so i (some (iU (i:Int) (jz v.c) (jU v.c)))})else(10,o,v)
    |some x=>if dK d=1 then(9,o,v)else if dK d=9 then(0,(oH v i o).1,(oH v i o).2)
     else if(dy x v.af d xs).1=0 then(0,(my v i (dy x v.af d xs).2 o).1,(my v i (dy x v.af d xs).2 o).2)
     else((dy x v.af d xs).1,o,{v with so:=gY v.so i (some (dy x v.af d xs).2)}):=by
   unfold iI;first
    |(rw[aw (λhh=>hh c),hi,eit];cases v.so i<;>rfl)
    |rw[aw (λhh=>hh c),hi,eit]
  obtain⟨p,ck,q,l,h⟩:=h.gW b;have hsn:=aai h p v.so hi8;have hat:Ks.un [.ptr] (((mL v.c ck p q l).drop (0+10+(dS d).toNat*1)).take 1)=some (p i):=by rw[hi,eit,SR v.c ck p q l i hi8]
  refine aM h λw h=>aj (x:=dS d) h rfl (ac ⟨c,aj h hat (aj (x:=dK d) h rfl ?_)⟩);cases hs:v.so i with
  |none=>
   rw[hs]at hsn hone;have hpn:p i=none:=by simpa using hsn
   rw[hpn];refine ae (λcc=>(by simp at cc)) λ_=>aj (x:=dK d) h rfl (ae (λc1=>?_) λc1=>?_)
   ·have c1:dK d=1:=(by simpa using c1);dsimp only at hone;rw[aF c1]at hone;rw[hone];refine aM h λw h=>aj (x:=dS d) h rfl (aj (x:=dS d) h rfl (ac (ac (aj (x:=v.c) h rfl ?_))));rw[hi];refine aq (Bw.OV (i:Int) v.c) (h.le ((aG _).trans (aU _ _))) λr w h=>?_;obtain⟨ap,h⟩:=h.lS;obtain⟨hr,h⟩:=h.aP;rw[hr];have h:au w0 S R w (mP ap (iU (i:Int) (jz v.c) (jU v.c))^ah n1 (Ks.mk KD d)^(ah b (mL v.c ck p q l)^ah ck [aC v.af]^qN q v.q^uX l v.l^oJ p v.so)^fH a o^bg):=h.aK;refine aN h (by show [Lf.int i64 (dS d)]=_;rw[hi];rfl) ⟨by omega,?_⟩;rw[eit];obtain⟨_,h⟩:=h.Ze p v.so hi8 hs;refine aB h b (mL v.c ck (wJ p i (some ⟨ap,0⟩)) q l) rfl (by rcases SQ hi8 with rfl|rfl|rfl|rfl|rfl|rfl|rfl|rfl<;>rfl) (SS v.c ck p q l i hi8 (some ⟨ap,0⟩)) λw h=>?_;have h:=h.W9 p v.so hi8 (wJ p i (some ⟨ap,0⟩)) (gY v.so i (some (iU (i:Int) (jz v.c) (jU v.c)))) ap (iU (i:Int) (jz v.c) (jU v.c)) (λj hj=>AR p _ hj) (λj hj=>kh v.so _ hj) (sN p i _) (fm v.so i _);have h:=h.lW b (wJ p i (some ⟨ap,0⟩)) ck q l {v with so:=gY v.so i (some (iU (i:Int) (jz v.c) (jU v.c)))};exact au.aH rfl h.aK
   ·have c1:¬dK d=1:=(by simpa using c1);dsimp only at hone;rw[aw c1]at hone;rw[hone];refine ae (λ_=>?_) λcc=>(by simp at cc);have h:=h.lW b p ck q l v;exact au.aH rfl h.aK
  |some x=>
   obtain⟨hx,hid,_⟩:=hv.so i x hs;rw[hs]at hsn hone;obtain⟨ap,hp,h⟩:=h.NA p v.so hi8 hs;rw[hp];refine ae (λc1=>?_) λc1=>?_
   ·have c1:dK d=1:=(by simpa using c1);dsimp only at hone;rw[aF c1]at hone;rw[hone];have h:=h.W9 p v.so hi8 p v.so ap x (λ_ _=>rfl) (λ_ _=>rfl) hp hs;have h:=h.lW b p ck q l v;exact au.aH rfl h.aK
   have c1:¬dK d=1:=(by simpa using c1);dsimp only at hone;rw[aw c1]at hone;refine aj (x:=dK d) h rfl (ae (λcc=>(by simp at cc;exact absurd cc c1)) λ_=>ae (λcc=>(by simp at cc)) λ_=>aj (x:=dK d) h rfl (ae (λc9=>?_) λc9=>?_))
   ·have c9:dK d=9:=(by simpa using c9);rw[aF c9]at hone;rw[hone];have h:=h.W9 p v.so hi8 p v.so ap x (λ_ _=>rfl) (λ_ _=>rfl) hp hs;have h:=h.lW b p ck q l v;refine aj (x:=dS d) h rfl ?_;rw[hi];refine aq (OQ b a k v hv i hi8 o hl) h λ_ w h=>?_;exact au.aH rfl h.aK
   have c9:¬dK d=9:=(by simpa using c9);rw[aw c9]at hone;refine aM h λw h=>ay (b:=n1) (x:=d) h rfl (aI (qh b v.c p ck q l v.af) h λw h=>?_);refine aO (b:=n1) h ?_;refine bR (A:=mP ap x) (Q:=aZ (dR d) KR xs) (OZ ap k x hx v.af hv.un d hd xs hxl) h λr w h=>?_;obtain⟨hr,h⟩:=h.aP;rw[hr];obtain⟨hx2,hid2⟩:=pq hx hk hv.un d xs;have h:=h.W9 p v.so hi8 p (gY v.so i (some (dy x v.af d xs).2)) ap (dy x v.af d xs).2 (λ_ _=>rfl) (λj hj=>kh v.so _ hj) hp (fm v.so i _);have h:=h.lW b p ck q l {v with so:=gY v.so i (some (dy x v.af d xs).2)};have hv2:jp (k+1) {v with so:=gY v.so i (some (dy x v.af d xs).2)}:=DW (Cn hv (by omega) (by omega)) hi8 hx2 (hid2.trans hid);refine ae (λc0=>?_) λc0=>?_
   ·have c0:(dy x v.af d xs).1=0:=(by simpa using c0);rw[aF c0]at hone;rw[hone];refine aj (x:=dS d) h rfl ?_;rw[hi];refine aq (NK b a (k+1) {v with so:=gY v.so i (some (dy x v.af d xs).2)} hv2 i (dy x v.af d xs).2 (fm v.so i _) o (by omega)) h λ_ w h=>?_;have e:my {v with so:=gY v.so i (some (dy x v.af d xs).2)} i (dy x v.af d xs).2 o=my v i (dy x v.af d xs).2 o:=by
     unfold my;dsimp only;rw[R7]
    rw[e]at h;exact au.aH c0 h.aK
   ·have c0:¬(dy x v.af d xs).1=0:=(by simpa using c0);rw[aw c0]at hone;rw[hone];exact au.aH rfl h.aK
abbrev gn:Ks:=[.sl,.sl,.sl,.int .u64]
def np(r:Ks.T gn)(o:Ou):SP:=br (r.2.2.2=o.wd) (aQ r.1 KS o.qY^aQ r.2.1 KS o.dr^aQ r.2.2.1 KI o.ft)
instance(r:Ks.T gn)(o:Ou):nt (np r o):=by unfold np;infer_instance
theorem Yp{k:Int}(h:vI k=true):k=1∨k=2∨k=3∨k=4∨k=7∨k=9:=by unfold vI at h;simp only[Aq,sy]at h;omega
theorem VM(b)(k:Int)(v)(hv:jp k v)(hk:k<1000000)(d)(hd:H_ d)(xs)(hxl:xs.length≤4294967296):
  bx (ZG (some ⟨b,0⟩) d) (gW b v^aZ (dR d) KR xs) (λr=>br (r.2=(nj v d xs).1.2) (gW b (nj v d xs).2^np r.1 (nj v d xs).1.1)):=
 bF λw0 S R h=>by
  refine aD (h.le (aG _)) λn1 w h=>aD h λn2 w h=>ae (λc=>(by simp at c)) λ_=>aD h λn4 w h=>?_;have h:=h.nil KS;have h:=h.nil KS;have h:=h.nil KI;have h:=h.xn n4 ⟨none,0,0⟩ ⟨none,0,0⟩ ⟨none,0,0⟩ eZ;have h:au w0 S R w (ah n1 (Ks.mk KD d)^fH n4 eZ^gW b v^aZ (dR d) KR xs^ah n2 [aX ⟨none,0,0⟩,aX ⟨none,0,0⟩,aX ⟨none,0,0⟩,aC 0]^bg):=h.aK;refine aS h (λ_=>fH n4 (dQ v d xs).2.1^gW b (dQ v d xs).2.2^ah n2 [aX ⟨none,0,0⟩,aX ⟨none,0,0⟩,aX ⟨none,0,0⟩,aC 0]^bg) (λy:Int=>y=(dQ v d xs).1) (λ(y:Int) w hy h=>?_) ?_
  ·rw[hy];refine ae (λc=>?_) λc=>?_
   ·have c:(dQ v d xs).1≠0:=cS;rw[show nj v d xs=((eZ,(dQ v d xs).1),(dQ v d xs).2.2) by unfold nj;rw[aF c]];refine aA h (by rfl) λw h=>ay (b:=n2) (x:=((⟨none,0,0⟩,⟨none,0,0⟩,⟨none,0,0⟩,0):Ks.T gn)) h rfl ?_;have h:=h.nil KS;have h:=h.nil KS;have h:=h.nil KI;have h:au w0 S R w (np (⟨none,0,0⟩,⟨none,0,0⟩,⟨none,0,0⟩,0) eZ^gW b (dQ v d xs).2.2^bg):=au.je (p:=((⟨none,0,0⟩,⟨none,0,0⟩,⟨none,0,0⟩,0):Ks.T gn).2.2.2=eZ.wd) (A:=aQ ⟨none,0,0⟩ KS []^aQ ⟨none,0,0⟩ KS []^aQ ⟨none,0,0⟩ KI []) rfl h.aK;exact au.aH rfl h.aK
   ·have c:(dQ v d xs).1=0:=cS;rw[show nj v d xs=(((dQ v d xs).2.1,0),(dQ v d xs).2.2) by unfold nj;rw[aw (λx=>x c)]];obtain⟨s1,s2,s3,h⟩:=h.fH n4;refine ay (b:=n4) (x:=((s1,s2,s3,(dQ v d xs).2.1.wd):Ks.T gn)) h rfl (aA h (by rfl) λw h=>ay (b:=n2) (x:=((s1,s2,s3,(dQ v d xs).2.1.wd):Ks.T gn)) h rfl ?_);have h:au w0 S R w (np (s1,s2,s3,(dQ v d xs).2.1.wd) (dQ v d xs).2.1^gW b (dQ v d xs).2.2^bg):=au.je (p:=((s1,s2,s3,(dQ v d xs).2.1.wd):Ks.T gn).2.2.2=(dQ v d xs).2.1.wd) (A:=aQ s1 KS (dQ v d xs).2.1.qY^aQ s2 KS (dQ v d xs).2.1.dr^aQ s3 KI (dQ v d xs).2.1.ft) rfl h.aK;exact au.aH rfl h.aK
  ·refine aj (x:=dK d) h rfl (ae (λc5=>?_) λc5=>?_)
   ·have c5:dK d=5:=(by simpa using c5);rw[show dQ v d xs=((ib v.af (dA d)).1,eZ,{v with af:=(ib v.af (dA d)).2}) by unfold dQ;rw[aF c5]];obtain⟨p,ck,q,l,h⟩:=h.gW b;refine aM h λw h=>ac (aj (x:=dA d) h rfl (aj (x:=some ⟨ck,0⟩) h rfl (aI (Nk ck v.af (dA d)) h λw h=>?_)));have h:=h.lW b p ck q l {v with af:=(ib v.af (dA d)).2};exact⟨rfl,h.aK⟩
   have c5:¬dK d=5:=(by simpa using c5);refine ae (λc6=>?_) λc6=>?_
   ·have c6:dK d=6:=(by simpa using c6);rw[show dQ v d xs=(0,(fx v eZ).1,(fx v eZ).2) by unfold dQ;rw[aw c5,aF c6]];refine aq (NI b n4 k v hv eZ) h λ_ w h=>?_;exact⟨rfl,h.aK⟩
   have c6:¬dK d=6:=(by simpa using c6);refine ae (λc8=>?_) λc8=>?_
   ·have c8:dK d=8:=(by simpa using c8);rw[show dQ v d xs=((qT v (dC d)).1,eZ,(qT v (dC d)).2) by unfold dQ;rw[aw c5,aw c6,aF c8]];refine aj (x:=dC d) h rfl (aI (mQ b v (dC d)) h λw h=>?_);exact⟨rfl,h.aK⟩
   have c8:¬dK d=8:=(by simpa using c8);have estep:dQ v d xs=if vI (dK d)then iI v d xs eZ else(12,eZ,v):=by unfold dQ;rw[aw c5,aw c6,aw c8]
   refine aS h (λ_=>ah n1 (Ks.mk KD d)^fH n4 eZ^gW b v^aZ (dR d) KR xs^ah n2 [aX ⟨none,0,0⟩,aX ⟨none,0,0⟩,aX ⟨none,0,0⟩,aC 0]^bg) (λy:Bool=>y=vI (dK d)) (λ(y:Bool) w hy h=>?_) ?_
   ·rw[hy];refine ae (λc=>?_) λc=>?_
    ·rw[aF c]at estep;rw[estep];refine ay (b:=n1) (x:=d) h rfl ?_;refine bR (A:=gW b v^fH n4 eZ) (Q:=aZ (dR d) KR xs) (Rx b n4 k v hv hk d hd xs hxl eZ ⟨by show(0:Nat)≤400;decide,by show(0:Nat)≤400;decide⟩) h λr w h=>?_;obtain⟨hr,h⟩:=h.aP;rw[hr];exact⟨rfl,h.aK⟩
    ·rw[aw (by rw[c];simp)]at estep;rw[estep];exact⟨rfl,h.aK⟩
   ·unfold vI;refine ae (λc=>⟨by rw[c];rfl,h⟩) λd1=>?_;refine ae (λc=>⟨by rw[d1,c];rfl,h⟩) λd2=>?_;refine ae (λc=>⟨by rw[d1,d2,c];rfl,h⟩) λd3=>?_;refine ae (λc=>⟨by rw[d1,d2,d3,c];rfl,h⟩) λd4=>?_;refine ae (λc=>⟨by rw[d1,d2,d3,d4,c];rfl,h⟩) λd5=>?_;exact⟨by rw[d1,d2,d3,d4,d5];rfl,h⟩
end D2

namespace K9
open bK bp lJ xQ
abbrev KR:Ks:=[.int .u64,.int .u64]
abbrev Lq:=Dd×List (Ks.T KR)
abbrev nU(s:Sl)(ps:List Lq):SP:=aZ s KD (ps.map Prod.fst)^rl (λp:Lq=>aZ (dR p.1) KR p.2) ps
theorem S4{ps:List Lq}{i:Nat}{o:Lq}(h:ps[i]?=some o):Rd (dR o.1) (rl (λp:Lq=>aZ (dR p.1) KR p.2) ps) KR o.2:=B8 h (RJ _ _ _)
abbrev zD:List Lf:=[aJ 0,aJ 0,aJ 0,aC 0,aC 0,aX ⟨none,0,0⟩,aJ 0,aJ 0,aJ 0,aJ 0,aC 0,aC 0,a_ false,aJ 0,aJ 0]
end K9

namespace K_
open bK bp fh lJ mh fe xQ A1 yM qA A2 Cm D2
open eC (Sk cm cv eG iz iU c_ bu dW)
open pY (nh)
open nz (pw)
theorem RD{k:Int}{v:Mc}(hv:jp k v){i:Nat}(hi:i<8){x:Sk}(hx:pw k x)(hid:x.id=(i:Int))(o):jp k (my v i x o).2:=by
 have h:=Fk hv.un (fresh x+1) ⟨x,v.q,v.l,o⟩ (⟨hx,hid,hv.q⟩:yN k i ⟨x,v.q,v.l,o⟩);have h2:=DW hv hi (x:=(pi i v.af ⟨x,v.q,v.l,o⟩).v) h.v h.id;exact{h2 with q:=h.q}
theorem RW{k:Int}(hv:jp k v)(i o):jp k (oH v i o).2:=by
 have h:=WE hv i;exact{h with q:=hv.q.close _}
theorem RB{k:Int}(hv:jp k v)(o):jp k (fx v o).2:=by
 have h:=Lb.Gx hv.q hv.un (v8 hv);unfold fx;split
 ·rename_i s q e;rw[e]at h;exact{hv with q:=h}
 ·rename_i q e;rw[e]at h;exact{hv with q:=h}
theorem Wo{k:Int}(hv:jp k v)(hc:0≤cH c∧U (cR c)):jp k (qT v c).2:=by
 have h:=hv.q.set hc;unfold qT;split
 ·rename_i h0;refine{hv with q:=h,c:=?_};unfold pI at h0;by_cases hm:may c=true
  ·exact GS hm hc.1 hc.2
  ·rw[aw hm]at h0;cases h0
 ·exact{hv with q:=h}
theorem Wb{k:Int}(hv:jp k v)(hk:k<1000000)(d)(xs:List (Int×Int))(o):jp (k+1) (iI v d xs o).2.2:=by
 have h1:=Cn hv (j:=k+1) (by omega) (by omega);have hc:=hv.c.cap;unfold iI;split
 ·exact h1
 ·rename_i hi;have hi:0≤dS d∧dS d<8:=Ad.1 hi;have hi8:(dS d).toNat<8:=by omega
  split
  ·split
   ·have hn:=nz.Rh (dS d) (jz v.c) (jU v.c) ⟨by omega,by omega⟩;exact DW h1 hi8 (MU hn h1.kr.1 (by omega)) (by show dS d=_;omega)
   ·exact h1
  ·rename_i x hx;obtain⟨hxi,hxd,_⟩:=hv.so _ x hx;split
   ·exact h1
   ·split
    ·exact RW h1 _ _
    ·obtain⟨a,b⟩:=pq hxi hk hv.un d xs;split
     ·exact RD h1 hi8 a (b.trans hxd) o
     ·exact DW h1 hi8 a (b.trans hxd)
theorem X0{k:Int}(hv:jp k v)(hk:k<1000000)(hd:H_ d)(xs:List (Int×Int)):jp (k+1) (nj v d xs).2:=by
 have h1:=Cn hv (j:=k+1) (by omega) (by omega);have e:(nj v d xs).2=(dQ v d xs).2.2:=by unfold nj;split<;>rfl
 rw[e];unfold dQ;split
 ·have hn:=hv.af;have ha:=hd.a;unfold U at ha;refine{h1 with af:=?_};show 0≤(ib v.af (dA d)).2∧(ib v.af (dA d)).2≤4611686018427387904;unfold ib;split
  ·exact hn
  ·split
   ·exact hn
   ·exact⟨ha.1,by show dA d≤_;omega⟩
 ·split
  ·exact RB h1 _
  ·split
   ·exact Wo h1 hd.c
   ·split
    ·exact Wb hv hk d xs eZ
    ·exact h1
theorem V9{c:Cf}(hc:yq c):jp 0 (eF c) where
 c:=hc
 af:=by show(0:Int)≤0∧(0:Int)≤4611686018427387904;decide
 q:=iM.new hc
 so:=λi x h=>by cases h
 kr:=by decide
abbrev pE:Cf:=(3000,15000,100,50,10000000000,0,false,100000,1000)
end K_

namespace La
open bK bp fh lJ mh fe xQ A1 yM qA A2 Cm D2 K9 K_
open eC (Sk cm cv eG iz iU c_ bu dW)
open pY (nh)
open nz (pw)
def A8(x:Option Fl):List Sg:=match x with
 |none=>[]
 |some f=>f.sg
theorem I5(h:Ps.rO u v)(j:Nat):A8 (v.fl j)=A8 (u.fl j):=by
 have:=h j;cases hu:u.fl j with
 |none=>
  rw[hu]at this;cases hv:v.fl j with
  |none=>rfl
  |some g=>rw[hv]at this;cases this
 |some f=>
  obtain⟨g,hg,_,hs,_⟩:=h.to hu;rw[hg];exact hs
theorem VJ(hv:iM v){t:Int}(ut:U t){rates:List Int}(hr:∀x∈rates,U x):
  ((gU v t rates).1=none∧∀j,A8 ((gU v t rates).2.fl j)=A8 (v.fl j))∨∃(i:Nat) (s:Sg),(gU v t rates).1=some s∧(sK s=(i:Int)∧i<8)∧∀j,A8 (v.fl j)=(if j=i then [s]else [])++A8 ((gU v t rates).2.fl j):=by
 obtain⟨u,hu,hc⟩:=Ps.ran hv ut hr;rcases hc with⟨_,he⟩|⟨i,f,s,l,hA,hcr,hs,htf,he⟩
 ·left;rw[he];exact⟨rfl,I5 hu.same⟩
 ·right;have hF:=(hu.ok.fl i f hA.fl).2;obtain⟨hsk,hso⟩:=hF.sg s (by rw[hs];simp);rw[he];refine⟨i,s,rfl,⟨hsk,hA.lt⟩,λj=>?_⟩;rw[←I5 hu.same j];show _=_++A8 (jK u.fl i _ j);by_cases e:j=i
  ·rw[e,co,aF rfl,hA.fl];show f.sg=_;rw[hs];rfl
  ·rw[ec _ _ e,aw e]
   rfl
abbrev b0(c:Ct):Int:=c.2.1
abbrev b1(c:Ct):Int:=c.2.2.1
abbrev b2(c:Ct):Int:=c.2.2.2.1
abbrev b3(c:Ct):Int:=c.2.2.2.2.1
abbrev b4(c:Ct):Int:=c.2.2.2.2.2.1
abbrev b5(c:Ct):Int:=c.2.2.2.2.2.2.1
end La

namespace Pq
open bK bp fh lJ mh fe xQ A1 yM qA A2 Cm D2 K9 K_ La
open eC (Sk cm cv eG iz iU c_ bu dW)
section
variable {w0 w:World} {S R:Nat→Prop}
end
abbrev c8(c:Ct):List Int:=[c.1,b0 c,b1 c,b2 c,b3 c,b4 c,b5 c,tF c]
end Pq

namespace Ln
open bK bp fh lJ mh fe xQ A1 yM qA A2 Cm D2 K9 K_ La Pq
open eC (Sk cm cv eG iz iU c_ bu dW)
section
variable {w0 w:World} {S R:Nat→Prop} {F G:SP}
end
theorem FJ(c):bx (Y1 c) bg (λr=>br (r=may c) bg):=
 bF λw0 S R h=>by
  refine aD h λn1 w h=>?_;have no:∀{w:World},¬(may c=true)→au w0 S R w (ah n1 (Ks.mk KC c)^bg)→au w0 S R w (br (false=may c) bg):=λ{w} hm h=>au.aH (by cases hh:may c with
   |false=>rfl
   |true=>exact absurd hh hm) h.h_
  have um:may c=true↔((100≤cQ c∧cQ c≤65536)∧(100≤cF c∧cF c≤65536)∧(1≤cL c∧cL c≤512)∧(1≤cW c∧cW c≤512)∧cH c≤4611686018427387904∧(1≤jU c∧jU c≤1073741824)∧(100≤jz c∧jz c≤9000)):=by
   unfold may;simp only[ej,j_]
  refine aj h rfl (ae (λc0=>?_) λc0=>?_);rotate_left
  ·have c0:¬cQ c≥100:=cd c0;exact no (λx=>by rw[um]at x;omega) h
  have c0:cQ c≥100:=bZ c0;refine aj h rfl (ae (λc1=>?_) λc1=>?_);rotate_left
  ·have c1:¬cQ c≤65536:=cd c1;exact no (λx=>by rw[um]at x;omega) h
  have c1:cQ c≤65536:=bZ c1;refine aj h rfl (ae (λc2=>?_) λc2=>?_);rotate_left
  ·have c2:¬cF c≥100:=cd c2;exact no (λx=>by rw[um]at x;omega) h
  have c2:cF c≥100:=bZ c2;refine aj h rfl (ae (λc3=>?_) λc3=>?_);rotate_left
  ·have c3:¬cF c≤65536:=cd c3;exact no (λx=>by rw[um]at x;omega) h
  have c3:cF c≤65536:=bZ c3;refine aj h rfl (ae (λc4=>?_) λc4=>?_);rotate_left
  ·have c4:¬cL c≥1:=cd c4;exact no (λx=>by rw[um]at x;omega) h
  have c4:cL c≥1:=bZ c4;refine aj h rfl (ae (λc5=>?_) λc5=>?_);rotate_left
  ·have c5:¬cL c≤512:=cd c5;exact no (λx=>by rw[um]at x;omega) h
  have c5:cL c≤512:=bZ c5;refine aj h rfl (ae (λc6=>?_) λc6=>?_);rotate_left
  ·have c6:¬cW c≥1:=cd c6;exact no (λx=>by rw[um]at x;omega) h
  have c6:cW c≥1:=bZ c6;refine aj h rfl (ae (λc7=>?_) λc7=>?_);rotate_left
  ·have c7:¬cW c≤512:=cd c7;exact no (λx=>by rw[um]at x;omega) h
  have c7:cW c≤512:=bZ c7;refine aj h rfl (ae (λc8=>?_) λc8=>?_);rotate_left
  ·have c8:¬cH c≤4611686018427387904:=cd c8;exact no (λx=>by rw[um]at x;omega) h
  have c8:cH c≤4611686018427387904:=bZ c8;refine aj h rfl (ae (λc9=>?_) λc9=>?_);rotate_left
  ·have c9:¬jU c≥1:=cd c9;exact no (λx=>by rw[um]at x;omega) h
  have c9:jU c≥1:=bZ c9;refine aj h rfl (ae (λPT=>?_) λPT=>?_);rotate_left
  ·have PT:¬jU c≤1073741824:=cd PT;exact no (λx=>by rw[um]at x;omega) h
  have PT:jU c≤1073741824:=bZ PT;refine aj h rfl (ae (λPx=>?_) λPx=>?_);rotate_left
  ·have Px:¬jz c≥100:=cd Px;exact no (λx=>by rw[um]at x;omega) h
  have Px:jz c≥100:=bZ Px;refine aj h rfl (au.aH ?_ h.h_);show decide (jz c≤9000)=may c;rw[jH,um,j_];omega
end Ln

namespace EgP
open bK bp fh lJ mh fe xQ A1 yM qA A2 Cm D2 K9 K_ La Pq Ln
open eC (Sk cm cv eG iz iU c_ bu dW)
section
variable {w0 w:World} {S R:Nat→Prop}
end
def fill{α:Type}(f:Nat→α)(z:α)(y:Nat):List α:=[if 0<y then f 0 else z,if 1<y then f 1 else z,if 2<y then f 2 else z,if 3<y then f 3 else z,if 4<y then f 4 else z,if 5<y then f 5 else z,if 6<y then f 6 else z,if 7<y then f 7 else z]
abbrev fC(v:Mc)(j:Nat):Ks.T Pu:=VG v.l (j:Int)
end EgP

namespace Tp
open bK bp fh lJ mh fe xQ A1 yM qA A2 Cm D2 K9 K_ La Pq Ln
open eC (Sk cm cv eG iz iU c_ bu dW)
abbrev d0:Dd:=(0,0,0,0,0,⟨none,0,0⟩,0,0,0,0,0,0,false,0,0)
abbrev uG(ps:List Lq)(j:Nat):Lq:=ps.getD j (d0,[])
def kO(v:Mc)(ps:List Lq):Nat→Mc
 |0=>v
 |j+1=>(nj (kO v ps j) (uG ps j).1 (uG ps j).2).2
def fS(v:Mc)(ps:List Lq):Nat→List Int
 |0=>[]
 |j+1=>fS v ps j++[(nj (kO v ps j) (uG ps j).1 (uG ps j).2).1.2]
theorem vo(v ps):∀j,(fS v ps j).length=j
 |0=>rfl
 |j+1=>by show(fS v ps j++[_]).length=_;rw[eQ,vo v ps j];rfl
theorem wj(hc:yq c)(hd:∀p∈ps,H_ p.1):∀j:Nat,j≤1000→j≤ps.length→jp (j:Int) (kO (eF c) ps j)
 |0,_,_=>V9 hc
 |j+1,h1,h2=>by
  have hj:uG ps j=ps[j]:=by unfold uG;rw[lB,gG (by omega)];rfl
  have:=X0 (wj hc hd j (by omega) (by omega)) (by omega) (hd (uG ps j) (by rw[hj];exact xv _)) (uG ps j).2;rw[show(j:Int)+1=((j+1:Nat):Int) by omega]at this;exact this
end Tp

namespace Jq
section
variable {w0 w:World} {S0 R0:Nat→Prop} {F G:SP}
theorem LD(l):flat [.int .u8] (l.map λb=>(b.toNat:Int))=XB l:=by
 induction l with
 |nil=>rfl
 |cons a l ih=>simp only[flat,ka,yb,XB]at*;rw[ih];rfl
theorem WJ(l:List UInt8)(h:au w0 S0 R0 w F)[t:Rd s F [.int .u8] (l.map λb=>(b.toNat:Int))](k:K ⟨l.toArray⟩ w):Gh s K w:=by
 obtain⟨h1,h2⟩:=h.rd (s:=s);rw[LD]at h1;exact⟨l,h1,by rw[h2,fy],k⟩
theorem AX(hp:p)(k:A w):dM p A w:=⟨hp,k⟩
end
end Jq

set_option maxRecDepth 100000
namespace Zk
open Go.RowKit
abbrev tB:TypeId:=72
abbrev tE:TypeId:=5
theorem PK{P:Program}{w:World}{t u ty e:TypeId}{i:TypeInfo}(ht:P.underlying t=some (.slice e))(hu:P.underlying u=some .string)(hi:P.info? e=some i)(hz:i.zero=some (.int .u8 0))(hsize:i.size=1)(hby:i.bytes=1)
  {v:Value} {n:Nat} {xs:List Value} (hown:w.ownsRow 0 e 1 v n xs) {s:ByteArray} (hb:n+s.size≤140737488355328) {v':Value} {w':World}
  (hr:(Builtin.append_ #[t,u] ty #[v,.string s]).run P w=.ok v' w') (hnil:v'=.slice none 0 0↔v=.slice none 0 0∧s.size=0):∀k,v'.ownBlock=some k→v.ownBlock=some k∨w.heap.size≤k:=by
 have hxl:xs.length=n:=by simpa using hown.1
 rcases hown.2 with⟨rfl,rfl⟩|⟨g,cap,cur,rfl,hbg,hg,hnc,hcm,hcs,htake⟩
 ·by_cases h0:s.size=0
  ·rw[hnil.2 ⟨rfl,h0⟩];intro k hk;cases hk
  ·have h:=run_append_nil_string (P:=P) w t u ty e i (.int .u8 0) ht hu hi hz s (by omega) (by omega) (by rw[hby];omega);rw[h]at hr
   injection hr with h1 _
   rw[←h1];intro k hk;simp only[Value.ownBlock,nJ]at hk;exact .inr (by omega)
 ·by_cases hroom:n+s.size≤cap
  ·have h:=Lib.run_append_room_string (P:=P) w t u ty e i ht hu hi hsize g n cap cur hg s hroom (by omega);rw[h]at hr
   injection hr with h1 _
   rw[←h1];exact λk hk=>.inl hk
  ·have h:=Lib.run_append_grow_string (P:=P) w t u ty e i (.int .u8 0) ht hu hi hz ⟨g,0,none⟩ n cap xs (by rw[hsize];simpa using hxl) (hown.cells (g:=g) rfl) s (by omega) (by omega) (by rw[hby];exact growslice_fits (by omega) (by omega));rw[h]at hr
   injection hr with h1 _
   rw[←h1];intro k hk;simp only[Value.ownBlock,nJ]at hk;exact .inr (by omega)
theorem Sd{P:Program}{w:World}{ops:Array Oper}{rest:List Oper}{o:Oper}{a:Act}{Q:Exit→Act→World→Prop}(hgd:o.guard=none)(sl x:Operand)(t u:TypeId)
  (ho:o.op=.call {callee:=.builtin .append,args:=#[sl,x],argTypes:=#[t,u]})
  (e:TypeId) (i:TypeInfo) (ht:P.underlying t=some (.slice e)) (hu:P.underlying u=some .string) (hi:P.info? e=some i) (hz:i.zero=some (.int .u8 0))
  (hsize:i.size=1) (hby:i.bytes=1)
  (v:Value) (n:Nat) (xs:List Value) (hs:a.eval sl=v) (hown:w.ownsRow 0 e 1 v n xs) (s:ByteArray) (hx:a.eval x=.string s)
  (hb:n+s.size≤140737488355328)
  (h:∀v' w',w'.ownsRow 0 e 1 v' (n+s.size) (xs++Lib.strCells s)→w.grownBy w' v.ownBlock→(∀k,v'.ownBlock=some k→v.ownBlock=some k∨w.heap.size≤k)→(v'=.slice none 0 0↔v=.slice none 0 0∧s.size=0)→wpList P ops Q rest (a.put o.dst v') w'):wpList P ops Q (o::rest) a w:=by
 refine wpList_plain hgd λK hK=>?_;obtain⟨v',w',hr,h2,h3,h4⟩:=Lib.run_append_own_string (P:=P) w 0 t u o.type e i ht hu hi hz hsize hby v n xs hown s (by unfold maxLen;omega) hb (iW _);have h5:=PK ht hu hi hz hsize hby hown hb hr h4;unfold Oper.wp execOp;simp only[ho,resolve,invoke,builtin,cA,eg,dH,List.map_toArray,ka,DB,hs,hx,hr];exact hK _ _ (h v' w' h2 h3 h5 h4)
theorem uB:Tryz.prog.underlying 70=some (.pointer tB):=by kernel_rfl
theorem uU:Tryz.prog.underlying 179=some .unsafePointer:=by kernel_rfl
theorem uS:Tryz.prog.underlying 42=some (.slice tE):=by kernel_rfl
theorem uT:Tryz.prog.underlying 9=some .string:=by kernel_rfl
theorem QC(b w)(h0:w.cell? ⟨b,0,none⟩=some (.pointer (some ⟨b,0,none⟩))):
  Calls Tryz.prog 53 #[.pointer (some ⟨b,0,none⟩)] w λe w'=>e=.returned (.tuple #[])∧w'=w:=by
 obtain⟨j,hj⟩:=tP.1 (show(Tryz.prog.info? tB).isSome=true by kernel_rfl)
 go_enter Tryz.func53,Tryz.ntmps53
 go_wp2
 rw[Lib.run_neq_ptr_same w _ uB hj]
 go_wp2
 go_end0
 exact⟨rfl,rfl⟩
theorem Mm(b w)(h0:w.cell? ⟨b,0,none⟩=some (.pointer none))(hsh:w.shape? b=some (tB,2))(hfz:w.frozen? ⟨b,0,none⟩=false):
  Calls Tryz.prog 53 #[.pointer (some ⟨b,0,none⟩)] w λe w'=>e=.returned (.tuple #[])∧w'=w.setCell ⟨b,0,none⟩ (.pointer (some ⟨b,0,none⟩)):=by
 obtain⟨j,hj,hs⟩:=Dg.1 (show(Tryz.prog.info? tB).map (·.size)=some 2 by kernel_rfl)
 go_enter Tryz.func53,Tryz.ntmps53
 go_wp2
 rw[Lib.run_to_unsafe w ⟨b,0,none⟩ uB uU hj (by rw[hs];decide) hsh (Nat.zero_lt_succ 1)];simp only[Result.andThen];rw[Ho]
 go_wp2
 rw[run_callFunc_extern Tryz.func81 (by kernel_rfl) (by kernel_rfl) (by kernel_rfl) (e:=Extern.AbiNoEscape.same) (by kernel_rfl)];rw[Lib.run_noEscape];simp only[Result.andThen];rw[Ho]
 go_wp2
 rw[Lib.run_from_unsafe w ⟨b,0,none⟩ uU uB hj hsh (by kernel_rfl)];simp only[Result.andThen];rw[Ho]
 go_wp2
 go_end0
 exact⟨rfl,rfl⟩
def At(b:Nat)(l:List UInt8)(w:World)(S:Nat→Prop):Prop:=
 ∃p v,(p=.pointer none∨p=.pointer (some ⟨b,0,none⟩))∧w.heap[b]?=some (.cells #[p,v] tB (0,0))∧w.ownsRow 0 tE 1 v l.length (Lib.byteCells l)∧v.ownBlock≠some b∧(∀k,S k↔k=b∨v.ownBlock=some k)∧(l=[]→v=.slice none 0 0)
theorem At.cells(h:At b l w S)(hk:S k):∃c t,w.heap[k]?=some (.cells c t (0,0)):=by
 obtain⟨p,v,hp,hb,ho,hn,hS,hz⟩:=h;rcases(hS k).1 hk with rfl|hk
 ·exact⟨_,_,hb⟩
 ·rcases ho.2 with⟨rfl,_⟩|⟨g,cap,cur,rfl,_,hg,_⟩
  ·cases hk
  ·simp only[Value.ownBlock,nJ]at hk;exact⟨_,_,hk▸hg⟩
theorem At.ext(h:At b l w S)(os:w'.os=w.os)(tape:w'.tape=w.tape)(output:w'.output=w.output)(size:w.heap.size≤w'.heap.size)(same:∀k,k<w.heap.size→¬S k→w'.heap[k]?=w.heap[k]?):ju S w w':=
 ⟨os,tape,output,size,same,λk hk=>by
  by_cases hs:S k
  ·obtain⟨c,t,e⟩:=h.cells hs;rw[e]at hk;cases hk
  ·rw[same k (pj.1 hk).1 hs];exact hk⟩
theorem cc(b:Nat)(l:List UInt8)(w:World)(S:Nat→Prop)(h:At b l w S):Calls Tryz.prog 53 #[.pointer (some ⟨b,0,none⟩)] w λe w'=>e=.returned (.tuple #[])∧(∃v,w'.heap[b]?=some (.cells #[.pointer (some ⟨b,0,none⟩),v] tB (0,0))∧w'.ownsRow 0 tE 1 v l.length (Lib.byteCells l)∧v.ownBlock≠some b∧(∀k,S k↔k=b∨v.ownBlock=some k)∧(l=[]→v=.slice none 0 0))∧w.grownBy w' (some b)∧w'.heap.size=w.heap.size:=by
 obtain⟨p,v,hp,hb,ho,hn,hS,hz⟩:=h;have c0:w.cell? ⟨b,0,none⟩=some p:=by rw[Lib.cell_of_heap hb];rfl
 rcases hp with rfl|rfl
 ·refine(Mm b w c0 (by simp[World.shape?,hb]) (Lib.frozen_of_heap hb 0)).mono ?_;rintro e w' ⟨rfl,rfl⟩;have hg:w.grownBy (w.setCell ⟨b,0,none⟩ (.pointer (some ⟨b,0,none⟩))) (some b):=⟨rfl,rfl,rfl,by simp[World.setCell],λk _ hk=>Below.heap_setCell _ _ _ _ (λe=>hk (by simp[e]))⟩;refine⟨rfl,⟨v,?_,ho.kept hg (.inr hn),hn,hS,hz⟩,hg,by simp[World.setCell]⟩;simp[World.setCell,Dh,hb]
 ·refine(QC b w c0).mono ?_;rintro e w' ⟨rfl,rfl⟩;exact⟨rfl,⟨v,hb,ho,hn,hS,hz⟩,⟨rfl,rfl,rfl,eM _,λ_ _ _=>rfl⟩,rfl⟩
theorem ws(b:Nat)(l:List UInt8)(s:ByteArray)(w:World)(S:Nat→Prop)(h:At b l w S)(hlen:l.length+s.size≤140737488355328):
  Calls Tryz.prog 31 #[.pointer (some ⟨b,0,none⟩),.string s] w λe w'=>e=.returned (.tuple #[.int .i64 s.size,.nilIface])∧∃S',At b (l++s.data.toList) w' S'∧(∀k,S' k→S k∨w.heap.size≤k)∧ju S w w':=by
 obtain⟨i0,hi,hzz⟩:=Dg.1 (show(Tryz.prog.info? tE).map (λi=>(i.zero,i.size,i.bytes))=some (some (.int .u8 0),1,1) by kernel_rfl);simp only[DA]at hzz;obtain⟨hz0,hz1,hz2⟩:=hzz
 go_enter Tryz.func31,Tryz.ntmps31
 go_wp2_with (go_at_call 53;refine(cc b l _ S h).mono ?_)
 rintro e w1 ⟨rfl,⟨v,hbk,hown,hne,hS,hz⟩,hg1,hsz1⟩;have c0:w1.cell? ⟨b,0,none⟩=some (.pointer (some ⟨b,0,none⟩)):=by rw[Lib.cell_of_heap hbk];rfl
 have c1:w1.cell? ⟨b,1,none⟩=some v:=by rw[Lib.cell_of_heap hbk];rfl
 go_wp2_with (at_builtin;refine Sd rfl _ _ 42 9 rfl tE i0 uS uT hi hz0 hz1 hz2 _ _ _ rfl hown s rfl hlen ?_)
 intro v' w2 hown' hgrow hv' hni;have hlt:b<w1.heap.size:=by
  rcases Nat.lt_or_ge b w1.heap.size with h'|h'
  ·exact h'
  ·simp[Array.getElem?_eq_none h']at hbk
 have hb2:w2.heap[b]?=some (.cells #[.pointer (some ⟨b,0,none⟩),v] tB (0,0)):=by
  rw[hgrow.block b hlt (λe=>hne e.symm)];exact hbk
 have d0:w2.cell? ⟨b,0,none⟩=some (.pointer (some ⟨b,0,none⟩)):=by rw[Lib.cell_of_heap hb2];rfl
 have d1:w2.cell? ⟨b,1,none⟩=some v:=by rw[Lib.cell_of_heap hb2];rfl
 have f1:w2.frozen? ⟨b,1,none⟩=false:=Lib.frozen_of_heap hb2 1;obtain⟨ao,n',cap,rfl⟩:∃ao n' cap,v'=.slice ao n' cap:=by
  rcases hown'.2 with⟨hv,_⟩|⟨g,cap,cur,hv,_⟩
  ·exact⟨_,_,_,hv⟩
  ·exact⟨_,_,_,hv⟩
 go_wp2
 go_ret2
 have hne':(Value.slice ao n' cap).ownBlock≠some b:=λe=>by
  rcases hv' b e with e|e
  ·exact hne e
  ·omega
 have hg3:w2.grownBy (w2.setCell ⟨b,1,none⟩ (.slice ao n' cap)) (some b):=⟨rfl,rfl,rfl,by simp[World.setCell],λk _ hk=>Below.heap_setCell _ _ _ _ (λe=>hk (by simp[e]))⟩;have hl:(l++s.data.toList).length=l.length+s.size:=by rw[eQ,Array.length_toList];rfl
 have hc:Lib.byteCells (l++s.data.toList)=Lib.byteCells l++Lib.strCells s:=by unfold Lib.byteCells Lib.strCells;rw[mA]
 refine⟨rfl,λk=>k=b∨(Value.slice ao n' cap).ownBlock=some k,⟨_,_,.inr rfl,by simp[World.setCell,Dh,hb2],?_,hne',λ_=>mC,λe=>?_⟩,?_,?_⟩
 ·rw[hl,hc];exact hown'.kept hg3 (.inr hne')
 ·obtain⟨e1,e2⟩:=List.append_eq_nil_iff.1 e;have e3:s.size=0:=by
   have:s.data.toList.length=0:=(by rw[e2];rfl);rw[Array.length_toList]at this;exact this
  exact hni.2 ⟨hz e1,by simpa using e3⟩
 ·rintro k (rfl|hk)
  ·exact .inl ((hS k).2 (.inl rfl))
  ·rcases hv' k hk with e|e
   ·exact .inl ((hS k).2 (.inr e))
   ·exact .inr e
 ·refine h.ext (hg3.os.trans (hgrow.os.trans hg1.os)) (hg3.tape.trans (hgrow.tape.trans hg1.tape)) (hg3.output.trans (hgrow.output.trans hg1.output)) (kH hg1.size (kH hgrow.size hg3.size)) λk hk hs=>?_;have k1:k≠b:=λe=>hs ((hS k).2 (.inl e));have k2:v.ownBlock≠some k:=λe=>hs ((hS k).2 (.inr e));have b1:=hg1.block k hk (λe=>k1 (kG e));have b2:=hgrow.block k (Ac hk hg1.size) (λe=>k2 e.symm);have b3:=hg3.block k (Ac hk (kH hg1.size hgrow.size)) (λe=>k1 (kG e));exact b3.trans (b2.trans b1)
theorem Wr(b p w)(hbk:w.heap[b]?=some (.cells #[p,.slice none 0 0] tB (0,0))):
  Calls Tryz.prog 35 #[.pointer (some ⟨b,0,none⟩)] w λe w'=>e=.returned (.string ⟨#[]⟩)∧w'=w.drew:=by
 have hUS:∀W q,(Builtin.unsafeString_ #[124,3] 9 #[.pointer q,.int .i64 0]).run Tryz.prog W=.ok (.string .empty) W:=λW q=>Lib.run_unsafeString_none W _ _ _ q;have c1:w.drew.cell? ⟨b,1,none⟩=some (.slice none 0 0):=by
  have:w.drew.heap[b]?=some (.cells #[p,.slice none 0 0] tB (0,0)):=hbk;rw[Lib.cell_of_heap this];rfl
 have hSD:(Builtin.unsafeSliceData_ #[42] 124 #[.slice none 0 0]).run Tryz.prog w.drew=.ok (.pointer none) w.drew:=rfl
 go_enter Tryz.func35,Tryz.ntmps35
 go_wp2
 go_region
 all_goals(go_wp2;go_ret;exact⟨rfl,rfl⟩)
theorem R4(b g cap p cur l w)(h0:l≠[])(hbk:w.heap[b]?=some (.cells #[p,.slice (some ⟨g,0,none⟩) l.length cap] tB (0,0)))(hg:w.heap[g]?=some (.cells cur tE (0,0)))(hnc:l.length≤cap)(hcm:cap≤maxLen)(hcs:cur.size=cap*1)(hc:∀j u,(Lib.byteCells l)[j]?=some u→w.cell? ((⟨g,0,none⟩:Addr).add j)=some u):
  Calls Tryz.prog 35 #[.pointer (some ⟨b,0,none⟩)] w λe w'=>e=.returned (.string ⟨l.toArray⟩)∧w'=w.drew.freeze ⟨g,0,none⟩ l.length:=by
 have hl0:l.length≠0:=by simpa using h0
 have c1:w.drew.cell? ⟨b,1,none⟩=some (.slice (some ⟨g,0,none⟩) l.length cap):=by
  have:w.drew.heap[b]?=some (.cells #[p,.slice (some ⟨g,0,none⟩) l.length cap] tB (0,0)):=hbk;rw[Lib.cell_of_heap this];rfl
 have hSD:(Builtin.unsafeSliceData_ #[42] 124 #[.slice (some ⟨g,0,none⟩) l.length cap]).run Tryz.prog w.drew=.ok (.pointer (some ⟨g,0,none⟩)) w.drew:=
  Lib.run_unsafeSliceData_row _ _ _ _ _ _ (by omega)
 have hUS:(Builtin.unsafeString_ #[124,3] 9 #[.pointer (some ⟨g,0,none⟩),.int .i64 l.length]).run Tryz.prog w.drew=.ok (.string ⟨l.toArray⟩) (w.drew.freeze ⟨g,0,none⟩ l.length):=by
  refine Lib.run_unsafeString_row w.drew 124 3 9 tE (by kernel_rfl) (by kernel_rfl) g cur.size (by have hg':w.drew.heap[g]?=some (.cells cur tE (0,0)):=hg;simp[World.shape?,hg']) l h0 (by omega) (by unfold maxLen at hcm;omega) ?_;intro j x hx;exact hc j (.int .u8 x.toNat) (by simp[Lib.byteCells,hx])
 clear hc
 go_enter Tryz.func35,Tryz.ntmps35
 go_wp2
 go_region
 all_goals(go_wp2;go_ret;exact⟨rfl,rfl⟩)
theorem aau(b:Nat)(l:List UInt8)(w:World)(S:Nat→Prop)(h:At b l w S):Calls Tryz.prog 35 #[.pointer (some ⟨b,0,none⟩)] w λe w'=>e=.returned (.string ⟨l.toArray⟩)∧ju S w w':=by
 have h':=h;obtain⟨p,v,hp,hb,ho,hn,hS,hz⟩:=h;by_cases h0:l=[]
 ·rw[hz h0]at hb;refine(Wr b p w hb).mono ?_;rintro e w' ⟨rfl,rfl⟩;rw[h0];exact⟨rfl,h'.ext rfl rfl rfl (eM _) λ_ _ _=>rfl⟩
 ·rcases ho.2 with⟨_,hz0⟩|⟨g,cap,cur,rfl,_,hg,hnc,hcm,hcs,_⟩
  ·exact absurd (nX hz0) h0
  ·refine(R4 b g cap p cur l w h0 hb hg hnc hcm hcs (ho.cells (g:=g) rfl)).mono ?_;rintro e w' ⟨rfl,rfl⟩;have hbl:=Lib.below_freeze (Below.drew (Below.refl 0 w)) (p:=⟨g,0,none⟩) (iW _) l.length;refine⟨rfl,h'.ext hbl.os hbl.tape hbl.output hbl.size λk hk hs=>?_⟩
   ·have:k≠g:=λe=>hs ((hS k).2 (.inr (by rw[e];rfl)));unfold World.freeze;split
    ·rfl
    ·show(Array.modify w.heap g _)[k]?=_;rw[Dh,aw (λe=>this e.symm)]
end Zk

namespace D_
open Zk
def F3(b:Nat)(l:List UInt8):SP where
 h w S R:=At b l w S∧∀k,¬R k
 st:=by
  rintro w w' S R ⟨⟨p,v,hp,hb,ho,hn,hS,hz⟩,hR⟩ hw;refine⟨⟨p,v,hp,by rw[hw b (.inl ((hS b).2 (.inl rfl)))];exact hb,⟨ho.1,?_⟩,hn,hS,hz⟩,hR⟩;rcases ho.2 with h|⟨g,cap,cur,rfl,h1,h2,h3⟩
  ·exact .inl h
  ·exact .inr ⟨g,cap,cur,rfl,h1,by rw[hw g (.inl ((hS g).2 (.inr rfl)))];exact h2,h3⟩
 nd:=by
  rintro w S R k ⟨h,hR⟩ hk;rcases hk with hk|hk
  ·obtain⟨c,t,e⟩:=h.cells hk;exact⟨_,e,by simp[kU]⟩
  ·exact(hR k hk).elim
section
variable {w0 w:World} {S0 R0:Nat→Prop} {F:SP}
theorem Pa(h:au w0 S0 R0 w F)(k:∀b w',au w0 S0 R0 w' (F3 b []^F)→K b w'):Rf tB [.ptr none,.sl ⟨none,0,0⟩] K w:=
 λw' he hb _=>k _ w' (h.more he (B:=F3 w.heap.size []) (S':=λk=>k=w.heap.size) ⟨⟨.pointer none,.slice none 0 0,.inl rfl,hb,World.ownsRow_nil _ _ _ _,by simp[Value.ownBlock],λk=>by simp[Value.ownBlock],λ_=>rfl⟩,λ_ h=>h⟩ (λ_ hk=>by rw[hk];exact eM _))
end
theorem qa(he:JW Tryz.prog f=true)(h:Calls Tryz.prog f args.toArray w λe w'=>∃v,e=.returned v∧R v w'):ky Tryz.prog f args w R:=
 .enters ⟨he,callsIn_wide.2 h⟩
theorem A0(b l s)(hl:l.length+s.size≤140737488355328):wF Tryz.prog de [.lf (.ptr (some ⟨b,0⟩)),.lf (.str s)] [.lf (.int .i64),.lf .Py] (F3 b l) (λ_=>F3 b (l++s.data.toList)):=by
 rintro w S R ⟨h,hR⟩;refine qa (by kernel_rfl) ((ws b l s w S h hl).mono ?_);rintro e w' ⟨rfl,S',h1,h2,h3⟩;exact⟨_,rfl,((s.size:Int),()),rfl,h3,S',λ_=>False,⟨h1,λ_ h=>h⟩,h2,λ_ h=>h.elim⟩
theorem OW(b l):wF Tryz.prog im [.lf (.ptr (some ⟨b,0⟩))] [.lf .str] (F3 b l) (λr=>br (r=⟨l.toArray⟩) bg):=by
 rintro w S R ⟨h,hR⟩;refine qa (by kernel_rfl) ((aau b l w S h).mono ?_);rintro e w' ⟨rfl,h3⟩;exact⟨_,rfl,⟨l.toArray⟩,rfl,h3,λ_=>False,λ_=>False,⟨rfl,λ_ h=>h,λ_ h=>h⟩,λ_ h=>h.elim,λ_ h=>h.elim⟩
def Wf:Array Value:=(Lib.pow10Tab.map λz=>Value.int .u64 z).toArray
def Zh:SP where
 h w S R:=(∃T fr,w.heap[0]?=some (.cells Wf T fr))∧(∀k,¬S k)∧∀k,R k↔k=0
 st:=by
  rintro w w' S R ⟨⟨T,fr,h⟩,hS,hR⟩ hw;exact⟨⟨T,fr,by rw[hw _ (.inr ((hR _).2 rfl))];exact h⟩,hS,hR⟩
 nd:=by
  rintro w S R k ⟨⟨T,fr,h⟩,hS,hR⟩ hk;rcases hk with hk|hk
  ·exact(hS k hk).elim
  ·rw[(hR k).1 hk];exact⟨_,h,by simp[kU]⟩
theorem OX(h:Zh.h w S R): Lib.TabIs Tryz.prog w "internal/strconv.uint64pow10" .u64 Lib.pow10Tab := by
 obtain⟨⟨T,fr,h⟩,_⟩:=h;have hg : Tryz.prog.globalNamed "internal/strconv.uint64pow10" = some 0 := by kernel_rfl
 simp[Lib.TabIs,World.var?,hg,h,Wf]
end D_

namespace Lu
open Go.Shelf Go.Lib Go.RowKit Go.Sort
def EY:Go.Shelf.Ren:=⟨λ|283=>83|n=>n,λ|3=>3|9=>9|4=>4|n=>n,λ|n=>n⟩
theorem Q6:Go.Proofs.Lays.n283 Tryz.prog EY:={
 mixed:=by kernel_rfl
 f283:=Tryz.func83.trans (dm some (by kernel_rfl))
 t3:=Tryz.underlying3
 a3:=Tryz.isAgg3
 z3:=Tryz.sizeOf3
 v3:=Tryz.zeroValue3
 t4:=Tryz.underlying4
 a4:=Tryz.isAgg4
 z4:=Tryz.sizeOf4
 v4:=Tryz.zeroValue4
 t9:=Tryz.underlying9
 a9:=Tryz.isAgg9
 z9:=Tryz.sizeOf9
 v9:=Tryz.zeroValue9}
theorem internal_strconv_small(i:Nat)(h:i<100)(w:World):
  Calls Tryz.prog 83 #[.int .i64 i] w λe w'=>e=.returned (.string ⟨(Lib.decDigits i).toArray⟩)∧w'=w:=Any.internal_strconv_small Q6 i h w
def CT:Go.Shelf.Ren:=⟨λ|284=>84|129=>136|317=>135|318=>137|n=>n,λ|53=>22|3=>3|212=>250|0=>0|4=>4|46=>48|5=>5|9=>9|n=>n,λ|17=>0|n=>n⟩
theorem M4:Go.Proofs.LaysM.n284 Tryz.prog CT:={
 mixed:=by kernel_rfl
 f129:=Tryz.func136.trans (dm some (by kernel_rfl))
 f284:=Tryz.func84.trans (dm some (by kernel_rfl))
 f317:=Tryz.func135.trans (dm some (by kernel_rfl))
 f318:=Tryz.func137.trans (dm some (by kernel_rfl))
 t0:=Tryz.underlying0
 a0:=Tryz.isAgg0
 z0:=Tryz.sizeOf0
 v0:=Tryz.zeroValue0
 t3:=Tryz.underlying3
 a3:=Tryz.isAgg3
 z3:=Tryz.sizeOf3
 v3:=Tryz.zeroValue3
 t4:=Tryz.underlying4
 a4:=Tryz.isAgg4
 z4:=Tryz.sizeOf4
 v4:=Tryz.zeroValue4
 t5:=Tryz.underlying5
 a5:=Tryz.isAgg5
 z5:=Tryz.sizeOf5
 v5:=Tryz.zeroValue5
 t9:=Tryz.underlying9
 a9:=Tryz.isAgg9
 z9:=Tryz.sizeOf9
 v9:=Tryz.zeroValue9
 t46:=Tryz.underlying48
 a46:=Tryz.isAgg48
 z46:=Tryz.sizeOf48
 v46:=Tryz.zeroValue48
 t53:=Tryz.underlying22
 a53:=Tryz.isAgg22
 z53:=Tryz.sizeOf22
 v53:=Tryz.zeroValue22
 t212:=Tryz.underlying250
 a212:=Tryz.isAgg250
 z212:=Tryz.sizeOf250
 v212:=Tryz.zeroValue250
 g17:=by kernel_rfl
 i0:=by kernel_rfl
 i3:=by kernel_rfl
 i4:=by kernel_rfl
 i5:=by kernel_rfl
 i9:=by kernel_rfl
 i46:=by kernel_rfl
 i53:=by kernel_rfl
 i212:=by kernel_rfl
 m17:=by kernel_rfl}
theorem internal_strconv_numDigits(u : Nat)(h1 : 1 ≤ u)(h2 : u < 18446744073709551616)(w : World)(htab : Lib.TabIs Tryz.prog w "internal/strconv.uint64pow10" .u64 Lib.pow10Tab):
  Calls Tryz.prog 84 #[.int .u64 u] w λe w'=>e=.returned (.int .i64 (Lib.nDigits u))∧w'=w:=Any.internal_strconv_numDigits M4 u h1 h2 w htab
def EZ:Go.Shelf.Ren:=⟨λ|285=>85|n=>n,λ|37=>42|53=>22|3=>3|4=>4|51=>251|9=>9|5=>5|0=>0|n=>n,λ|n=>n⟩
theorem Q7:Go.Proofs.Lays.n285 Tryz.prog EZ:={
 mixed:=by kernel_rfl
 f285:=Tryz.func85.trans (dm some (by kernel_rfl))
 t0:=Tryz.underlying0
 a0:=Tryz.isAgg0
 z0:=Tryz.sizeOf0
 v0:=Tryz.zeroValue0
 t3:=Tryz.underlying3
 a3:=Tryz.isAgg3
 z3:=Tryz.sizeOf3
 v3:=Tryz.zeroValue3
 t4:=Tryz.underlying4
 a4:=Tryz.isAgg4
 z4:=Tryz.sizeOf4
 v4:=Tryz.zeroValue4
 t5:=Tryz.underlying5
 a5:=Tryz.isAgg5
 z5:=Tryz.sizeOf5
 v5:=Tryz.zeroValue5
 t9:=Tryz.underlying9
 a9:=Tryz.isAgg9
 z9:=Tryz.sizeOf9
 v9:=Tryz.zeroValue9
 t37:=Tryz.underlying42
 a37:=Tryz.isAgg42
 z37:=Tryz.sizeOf42
 v37:=Tryz.zeroValue42
 t51:=Tryz.underlying251
 a51:=Tryz.isAgg251
 z51:=Tryz.sizeOf251
 v51:=Tryz.zeroValue251
 t53:=Tryz.underlying22
 a53:=Tryz.isAgg22
 z53:=Tryz.sizeOf22
 v53:=Tryz.zeroValue22}
theorem internal_strconv_formatBase10(ah off cap:Nat)(u:Nat)(d:Array UInt8)(w:World)(hH:_root_.Go.Sort.Holds (λ(b:UInt8)=>Value.int .u8 (b.toNat:Int)) w ah off d)(hu:u<10^d.size)(hu64:u<18446744073709551616)(hsz:d.size<4611686018427387904):
  Calls Tryz.prog 85 #[.slice (some ⟨ah,off,none⟩) d.size cap,.int .u64 u] w λe w'=>
   e=.returned (.tuple #[])∧∃(n v':Nat) (dk:Array UInt8),w'=(putRow (λ(b:UInt8)=>Value.int .u8 (b.toNat:Int)) w ah off dk).drewN n∧FmtInv d.size u 0 v' dk:=Any.internal_strconv_formatBase10 Q7 ah off cap u d w hH hu hu64 hsz
def CS:Go.Shelf.Ren:=⟨λ|171=>54|243=>82|246=>134|283=>83|284=>84|285=>85|286=>86|129=>136|317=>135|318=>137|319=>138|320=>139|337=>205|338=>206|n=>n,λ|3=>3|9=>9|2=>2|4=>4|171=>181|0=>0|53=>22|37=>42|5=>5|173=>184|212=>250|51=>251|20=>20|213=>252|46=>48|232=>368|233=>369|n=>n,λ|17=>0|18=>1|19=>2|n=>n⟩
theorem M3:Go.Proofs.LaysM.n171 Tryz.prog CS:={
 mixed:=by kernel_rfl
 f129:=Tryz.func136.trans (dm some (by kernel_rfl))
 f171:=Tryz.func54.trans (dm some (by kernel_rfl))
 f243:=Tryz.func82.trans (dm some (by kernel_rfl))
 f246:=Tryz.func134.trans (dm some (by kernel_rfl))
 f283:=Tryz.func83.trans (dm some (by kernel_rfl))
 f284:=Tryz.func84.trans (dm some (by kernel_rfl))
 f285:=Tryz.func85.trans (dm some (by kernel_rfl))
 f286:=Tryz.func86.trans (dm some (by kernel_rfl))
 f317:=Tryz.func135.trans (dm some (by kernel_rfl))
 f318:=Tryz.func137.trans (dm some (by kernel_rfl))
 f319:=Tryz.func138.trans (dm some (by kernel_rfl))
 f320:=Tryz.func139.trans (dm some (by kernel_rfl))
 f337:=Tryz.func205.trans (dm some (by kernel_rfl))
 f338:=Tryz.func206.trans (dm some (by kernel_rfl))
 t0:=Tryz.underlying0
 a0:=Tryz.isAgg0
 z0:=Tryz.sizeOf0
 v0:=Tryz.zeroValue0
 t2:=Tryz.underlying2
 a2:=Tryz.isAgg2
 z2:=Tryz.sizeOf2
 v2:=Tryz.zeroValue2
 t3:=Tryz.underlying3
 a3:=Tryz.isAgg3
 z3:=Tryz.sizeOf3
 v3:=Tryz.zeroValue3
 t4:=Tryz.underlying4
 a4:=Tryz.isAgg4
 z4:=Tryz.sizeOf4
 v4:=Tryz.zeroValue4
 t5:=Tryz.underlying5
 a5:=Tryz.isAgg5
 z5:=Tryz.sizeOf5
 v5:=Tryz.zeroValue5
 t9:=Tryz.underlying9
 a9:=Tryz.isAgg9
 z9:=Tryz.sizeOf9
 v9:=Tryz.zeroValue9
 t20:=Tryz.underlying20
 a20:=Tryz.isAgg20
 z20:=Tryz.sizeOf20
 v20:=Tryz.zeroValue20
 t37:=Tryz.underlying42
 a37:=Tryz.isAgg42
 z37:=Tryz.sizeOf42
 v37:=Tryz.zeroValue42
 t46:=Tryz.underlying48
 a46:=Tryz.isAgg48
 z46:=Tryz.sizeOf48
 v46:=Tryz.zeroValue48
 t51:=Tryz.underlying251
 a51:=Tryz.isAgg251
 z51:=Tryz.sizeOf251
 v51:=Tryz.zeroValue251
 t53:=Tryz.underlying22
 a53:=Tryz.isAgg22
 z53:=Tryz.sizeOf22
 v53:=Tryz.zeroValue22
 t171:=Tryz.underlying181
 a171:=Tryz.isAgg181
 z171:=Tryz.sizeOf181
 v171:=Tryz.zeroValue181
 t173:=Tryz.underlying184
 a173:=Tryz.isAgg184
 z173:=Tryz.sizeOf184
 v173:=Tryz.zeroValue184
 t212:=Tryz.underlying250
 a212:=Tryz.isAgg250
 z212:=Tryz.sizeOf250
 v212:=Tryz.zeroValue250
 t213:=Tryz.underlying252
 a213:=Tryz.isAgg252
 z213:=Tryz.sizeOf252
 t232:=Tryz.underlying368
 a232:=Tryz.isAgg368
 z232:=Tryz.sizeOf368
 v232:=Tryz.zeroValue368
 t233:=Tryz.underlying369
 a233:=Tryz.isAgg369
 z233:=Tryz.sizeOf369
 v233:=Tryz.zeroValue369
 g17:=by kernel_rfl
 g18:=by kernel_rfl
 g19:=by kernel_rfl
 i0:=by kernel_rfl
 i2:=by kernel_rfl
 i3:=by kernel_rfl
 i4:=by kernel_rfl
 i5:=by kernel_rfl
 i9:=by kernel_rfl
 i20:=by kernel_rfl
 i37:=by kernel_rfl
 i46:=by kernel_rfl
 i51:=by kernel_rfl
 i53:=by kernel_rfl
 i171:=by kernel_rfl
 i173:=by kernel_rfl
 i212:=by kernel_rfl
 i232:=by kernel_rfl
 i233:=by kernel_rfl
 m17:=by kernel_rfl
 m18:=by kernel_rfl
 m19:=by kernel_rfl}
theorem strconv_Itoa(n:Int)(h0:-9223372036854775808≤n)(h1:n≤9223372036854775807)(w)(htab : Lib.TabIs Tryz.prog w "internal/strconv.uint64pow10" .u64 Lib.pow10Tab):
  Calls Tryz.prog 54 #[.int .i64 n] w λe w'=>e=.returned (.string ⟨(Lib.itoa n).toArray⟩)∧∃k os,w'=grow (w.drewN k) os:=Any.strconv_Itoa M3 n h0 h1 w htab
def EX:Go.Shelf.Ren:=⟨λ|171=>54|243=>82|246=>134|283=>83|284=>84|285=>85|286=>86|129=>136|317=>135|318=>137|319=>138|320=>139|337=>205|338=>206|n=>n,λ|3=>3|9=>9|2=>2|4=>4|171=>181|0=>0|53=>22|37=>42|5=>5|173=>184|212=>250|51=>251|20=>20|213=>252|46=>48|232=>368|233=>369|n=>n,λ|17=>0|18=>1|19=>2|n=>n⟩
theorem Q5:Go.Proofs.Lays.n171 Tryz.prog EX:={
 mixed:=by kernel_rfl
 f129:=Tryz.func136.trans (dm some (by kernel_rfl))
 f171:=Tryz.func54.trans (dm some (by kernel_rfl))
 f243:=Tryz.func82.trans (dm some (by kernel_rfl))
 f246:=Tryz.func134.trans (dm some (by kernel_rfl))
 f283:=Tryz.func83.trans (dm some (by kernel_rfl))
 f284:=Tryz.func84.trans (dm some (by kernel_rfl))
 f285:=Tryz.func85.trans (dm some (by kernel_rfl))
 f286:=Tryz.func86.trans (dm some (by kernel_rfl))
 f317:=Tryz.func135.trans (dm some (by kernel_rfl))
 f318:=Tryz.func137.trans (dm some (by kernel_rfl))
 f319:=Tryz.func138.trans (dm some (by kernel_rfl))
 f320:=Tryz.func139.trans (dm some (by kernel_rfl))
 f337:=Tryz.func205.trans (dm some (by kernel_rfl))
 f338:=Tryz.func206.trans (dm some (by kernel_rfl))
 t0:=Tryz.underlying0
 a0:=Tryz.isAgg0
 z0:=Tryz.sizeOf0
 v0:=Tryz.zeroValue0
 t2:=Tryz.underlying2
 a2:=Tryz.isAgg2
 z2:=Tryz.sizeOf2
 v2:=Tryz.zeroValue2
 t3:=Tryz.underlying3
 a3:=Tryz.isAgg3
 z3:=Tryz.sizeOf3
 v3:=Tryz.zeroValue3
 t4:=Tryz.underlying4
 a4:=Tryz.isAgg4
 z4:=Tryz.sizeOf4
 v4:=Tryz.zeroValue4
 t5:=Tryz.underlying5
 a5:=Tryz.isAgg5
 z5:=Tryz.sizeOf5
 v5:=Tryz.zeroValue5
 t9:=Tryz.underlying9
 a9:=Tryz.isAgg9
 z9:=Tryz.sizeOf9
 v9:=Tryz.zeroValue9
 t20:=Tryz.underlying20
 a20:=Tryz.isAgg20
 z20:=Tryz.sizeOf20
 v20:=Tryz.zeroValue20
 t37:=Tryz.underlying42
 a37:=Tryz.isAgg42
 z37:=Tryz.sizeOf42
 v37:=Tryz.zeroValue42
 t46:=Tryz.underlying48
 a46:=Tryz.isAgg48
 z46:=Tryz.sizeOf48
 v46:=Tryz.zeroValue48
 t51:=Tryz.underlying251
 a51:=Tryz.isAgg251
 z51:=Tryz.sizeOf251
 v51:=Tryz.zeroValue251
 t53:=Tryz.underlying22
 a53:=Tryz.isAgg22
 z53:=Tryz.sizeOf22
 v53:=Tryz.zeroValue22
 t171:=Tryz.underlying181
 a171:=Tryz.isAgg181
 z171:=Tryz.sizeOf181
 v171:=Tryz.zeroValue181
 t173:=Tryz.underlying184
 a173:=Tryz.isAgg184
 z173:=Tryz.sizeOf184
 v173:=Tryz.zeroValue184
 t212:=Tryz.underlying250
 a212:=Tryz.isAgg250
 z212:=Tryz.sizeOf250
 v212:=Tryz.zeroValue250
 t213:=Tryz.underlying252
 a213:=Tryz.isAgg252
 z213:=Tryz.sizeOf252
 t232:=Tryz.underlying368
 a232:=Tryz.isAgg368
 z232:=Tryz.sizeOf368
 v232:=Tryz.zeroValue368
 t233:=Tryz.underlying369
 a233:=Tryz.isAgg369
 z233:=Tryz.sizeOf369
 v233:=Tryz.zeroValue369
 g17:=by kernel_rfl
 g18:=by kernel_rfl
 g19:=by kernel_rfl}
theorem strconv_Itoa_small(i:Nat)(hi:i<100)(w:World):
  Calls Tryz.prog 54 #[.int .i64 i] w λe w'=>e=.returned (.string ⟨(Lib.decDigits i).toArray⟩)∧w'=w:=Any.strconv_Itoa_small Q5 i hi w
end Lu

namespace yg
open Lu Go.Lib Go.Sort Go.RowKit Zk D_
abbrev tA:TypeId:=181
abbrev X3:UInt8→Value:=λb=>.int .u8 (b.toNat:Int)
theorem VV(w:World)(T:TypeId)(n:Nat)(h:n≤24):_root_.Go.Sort.Holds X3 (w.alloc (.cells zeros24 T)) w.heap.size 0 (Array.replicate n (0:UInt8)):=λj hj=>by
 rw[z7]at hj;refine⟨?_,World.frozen?_alloc_new _ _ _ _⟩;rw[nN,World.cell?_alloc_new,zeros24_at j (by omega)];simp[X3,hj]
set_option maxHeartbeats 3200000 in
set_option maxRecDepth 100000 in
theorem VU(u : Nat)(h1 : 100 ≤ u)(h2 : u < 18446744073709551616)(w : World)(htab : TabIs Tryz.prog w "internal/strconv.uint64pow10" .u64 pow10Tab):
  Calls Tryz.prog 55 #[.int .u64 u,.int .i64 10] w λe w'=>e=.returned (.string ⟨(decDigits u).toArray⟩)∧∃k os,w'=grow (w.drewN k) os:=by
 have hnd20:nDigits u≤20:=by have:=numDigits_eq u (by omega) h2;split at this<;>omega
 have hal:Tryz.prog.arrayLen tA=24:=by kernel_rfl
 have hsl:∀W,(Instr.sliceAt tA (.pointer (some ⟨w.heap.size,0,none⟩)) none (some (.int .i64 (nDigits u:Int))) none).run Tryz.prog W=.ok (.slice (some ⟨w.heap.size,0,none⟩) (nDigits u) 24) W:=λW=>by
  rw[run_sliceAt_array_h W tA ⟨w.heap.size,0,none⟩ (by kernel_rfl) .i64 (nDigits u:Int) (by omega) (by rw[hal];omega)];rw[hal]
  rfl
 have hH0:=VV w tA (nDigits u) (by omega);have hfmt:=internal_strconv_formatBase10 w.heap.size 0 24 u (Array.replicate (nDigits u) 0) (w.alloc (.cells zeros24 tA)) hH0 (by rw[z7];exact lt_pow_nDigits u) h2 (by rw[z7];omega);rw[z7]at hfmt;have HH0:=hid hH0;clear hH0 hal
 go_enter Tryz.func55,Tryz.ntmps55
 go_wp2_with (first
  |(go_at_call 84;refine(internal_strconv_numDigits u (by omega) h2 _ (tabIs_alloc htab _)).mono ?_;rintro e w' ⟨rfl,rfl⟩))
 go_at_call 85
 refine hfmt.mono ?_;rintro e w' ⟨rfl,k,v',dk,rfl,hF⟩;have hcv:(convert 42 9 (.slice (some ⟨w.heap.size,0,none⟩) (nDigits u) 24)).run Tryz.prog ((putRow (λ(b:UInt8)=>Value.int .u8 (b.toNat:Int)) (w.alloc (.cells zeros24 tA)) w.heap.size 0 dk).drewN k)=.ok (.string ⟨(decDigits u).toArray⟩) ((putRow (λ(b:UInt8)=>Value.int .u8 (b.toNat:Int)) (w.alloc (.cells zeros24 tA)) w.heap.size 0 dk).drewN k):=by
  have h:=G8 (P:=Tryz.prog) ((putRow X3 (w.alloc (.cells zeros24 tA)) w.heap.size 0 dk).drewN k) 42 9 5 ⟨w.heap.size,0,none⟩ 24 (decDigits u) (by kernel_rfl) (by kernel_rfl) (by kernel_rfl) (λj hj=>by
   rw[row_is_numeral hF j hj,add_plain,World.cell?_drewN];exact cell?_putRow X3 _ w.heap.size 0 _ dk HH0.out (by rw[hF.size,z7]) j (by rw[hF.size];rw[decDigits_length]at hj;exact hj))
  rw[decDigits_length]at h;exact h
 go_wp2
 go_ret
 refine⟨rfl,k,?_⟩;rw[alloc_eq_grow];obtain⟨os',_,e⟩:=putRow_grow_new X3 w #[.cells zeros24 tA] w.heap.size 0 dk (eM _);exact⟨os',by rw[e];rfl⟩
theorem MJ(u:Nat)(h1:u<100)(w:World):Calls Tryz.prog 55 #[.int .u64 u,.int .i64 10] w λe w'=>e=.returned (.string ⟨(decDigits u).toArray⟩)∧w'=w:=by
 go_enter Tryz.func55,Tryz.ntmps55
 go_wp2_with (go_at_call 83;refine(internal_strconv_small u h1 _).mono ?_;rintro e w' ⟨rfl,rfl⟩)
 go_ret
 exact⟨rfl,rfl⟩
theorem VS(u : Nat)(h1 : 100 ≤ u)(h2 : u < 18446744073709551616)(w : World)(htab : TabIs Tryz.prog w "internal/strconv.uint64pow10" .u64 pow10Tab):
  Calls Tryz.prog 34 #[.int .u64 u,.int .i64 10] w λe w'=>e=.returned (.string ⟨(decDigits u).toArray⟩)∧∃k os,w'=grow (w.drewN k) os:=by
 go_enter Tryz.func34,Tryz.ntmps34
 go_wp2_with (go_at_call 55;refine(VU u h1 h2 _ htab).mono ?_;rintro e w' ⟨rfl,k,os,rfl⟩)
 go_ret
 exact⟨rfl,k,os,rfl⟩
theorem MH(u:Nat)(h1:u<100)(w:World):Calls Tryz.prog 34 #[.int .u64 u,.int .i64 10] w λe w'=>e=.returned (.string ⟨(decDigits u).toArray⟩)∧w'=w:=by
 go_enter Tryz.func34,Tryz.ntmps34
 go_wp2_with (go_at_call 55;refine(MJ u h1 _).mono ?_;rintro e w' ⟨rfl,rfl⟩)
 go_ret
 exact⟨rfl,rfl⟩
def QL(n:Int):ByteArray:=⟨(decDigits n.toNat).toArray⟩
theorem EL(w k os):ju C6 w (grow (w.drewN k) os):=by
 have hs:(grow (w.drewN k) os).heap=w.heap++os:=rfl;have hk:∀i,i<w.heap.size→(grow (w.drewN k) os).heap[i]?=w.heap[i]?:=λi hi=>by rw[hs,NS hi]
 exact⟨rfl,rfl,rfl,by rw[hs,Array.size_append];omega,λi hi _=>hk i hi,λi hi=>by rw[hk i (pj.1 hi).1];exact hi⟩
def kX(big:Bool):SP:=cond big Zh bg
theorem Ws(h:(kX big).h w S R):∀k,¬S k:=by
 cases big
 ·exact h.1
 ·exact h.2.1
instance Yg(big:Bool)(F G:SP)[t:Take (kX big) F G]:rj (kX big) F:=⟨λw S R h=>by
 obtain⟨S1,R1,S2,R2,h1,_,_,hR,_⟩:=t.le w S R h;have:S1=λ_=>False:=funext λk=>propext ⟨λhk=>Ws h1 k hk,λhk=>hk.elim⟩;exact⟨R1,this▸h1,λk hk=>.inr ((hR k).2 (.inl hk))⟩⟩
theorem yB(hp:p)(he:ju C6 w w'):au w S R w' (br p bg):=
 ⟨he.mono λ_ _ h=>h.elim,λ_=>False,λ_=>False,⟨hp,λ_ h=>h,λ_ h=>h⟩,λ_ h=>h.elim,λ_ h=>h.elim⟩
theorem MS(big)(n:Int)(h0:0≤n)(h1:n<9223372036854775808)(hb:big=false→n<100):wF Tryz.prog rM [.lf (.int .i64 n)] [.lf .str] (bg^kX big) (λr=>br (r=QL n) bg):=by
 rintro w S' R' ⟨_,_,S,R,_,h,_⟩;obtain⟨u,rfl⟩:∃u:Nat,n=u:=⟨n.toNat,by omega⟩;have e:QL (u:Int)=⟨(decDigits u).toArray⟩:=by unfold QL;rw[eW]
 cases big with
 |false=>
  have hb:=hb rfl;refine qa (by kernel_rfl) ((strconv_Itoa_small u (by omega) w).mono ?_);rintro e' w' ⟨rfl,rfl⟩;exact⟨_,rfl,⟨(decDigits u).toArray⟩,rfl,yB e.symm (ju.refl _ _)⟩
 |true=>
  refine qa (by kernel_rfl) ((strconv_Itoa u (by omega) (by omega) w (OX h)).mono ?_);rintro e' w' ⟨rfl,k,os,rfl⟩;rw[itoa_nonneg];exact⟨_,rfl,⟨(decDigits u).toArray⟩,rfl,yB e.symm (EL w k os)⟩
theorem EO(big)(n:Int)(h0:0≤n)(h1:n<18446744073709551616)(hb:big=false→n<100):wF Tryz.prog jS [.lf (.int .u64 n),.lf (.int .i64 10)] [.lf .str] (bg^kX big) (λr=>br (r=QL n) bg):=by
 rintro w S' R' ⟨_,_,S,R,_,h,_⟩;obtain⟨u,rfl⟩:∃u:Nat,n=u:=⟨n.toNat,by omega⟩;have e:QL (u:Int)=⟨(decDigits u).toArray⟩:=by unfold QL;rw[eW]
 by_cases hu:u<100
 ·refine qa (by kernel_rfl) ((MH u hu w).mono ?_);rintro e' w' ⟨rfl,rfl⟩;exact⟨_,rfl,⟨(decDigits u).toArray⟩,rfl,yB e.symm (ju.refl _ _)⟩
 ·cases big with
  |false=>have:=hb rfl;omega
  |true=>
   refine qa (by kernel_rfl) ((VS u (by omega) (by omega) w (OX h)).mono ?_);rintro e' w' ⟨rfl,k,os,rfl⟩;exact⟨_,rfl,⟨(decDigits u).toArray⟩,rfl,yB e.symm (EL w k os)⟩
theorem uj(big)(v:Int)(h1:v<9223372036854775808)(hb:big=false→v<100):bx (XP v) (bg^kX big) (λr=>br (r=QL v) bg):=
 bF λw0 S R h=>by
  have e:(if(0:Int)>v then(0:Int)else v)=(v.toNat:Int):=by split<;>omega
  rw[e];refine bR (A:=bg) (Q:=kX big) (MS big (v.toNat:Int) (by omega) (by omega) (λhh=>by have:=hb hh;omega)) h λr w h=>?_;obtain⟨hr,h⟩:=h.aP;refine au.aH ?_ h.h_;rw[hr];unfold QL;rw[eW]
end yg

namespace Xs
open rD Jq D_ yg
theorem zh(n:Int):QL n=bA (dg n):=rfl
theorem mx:i64.max=9223372036854775807:=rfl
theorem fY(h:a.length+b.length≤1000000000000)(k:A w):dM ((((bA a).size+(bA b).size:Nat):Int)≤i64.max) A w:=by
 refine⟨?_,k⟩;rw[nQ,nQ,mx];omega
theorem Et(b l m):F3 b (l++(bA m).data.toList)=F3 b (l++m):=rfl
theorem XZ{n:Int}(h0:0≤n)(h:n<10):dg n=[UInt8.ofNat (48+n.toNat)]:=_root_.Go.Lib.decDigits_one (by omega)
theorem XY{n:Int}(h:10≤n):dg n=dg (n/10)++[UInt8.ofNat (48+(n%10).toNat)]:=by
 unfold dg;rw[_root_.Go.Lib.decDigits,dif_neg (by omega)];have e1:(n/10).toNat=n.toNat/10:=by omega
 have e2:(n%10).toNat=n.toNat%10:=by omega
 rw[e1,e2]
theorem WB{n:Int}(h0:0≤n)(h:n<10):IntKind.u8.wrap (u64.wrap ((48:Int)+n))=((UInt8.ofNat (48+n.toNat)).toNat:Int):=by
 rw[iy (n:=48+n)];have:(UInt8.ofNat (48+n.toNat)).toNat=48+n.toNat:=by
  rw[UInt8.toNat_ofNat'];omega
 rw[this];show(48+n)%256=_;omega
theorem Oe:∀(m:Nat) (v:Int),0≤v→v<18446744073709551616→v.toNat=m→bx (Mj v) bg (λr=>br (r=bA (dg v)) bg):=by
 intro m
 induction m using Nat.strongRecOn with
 |_ m ih=>
 intro v h0 h1 hm;refine bF λw0 S R h=>?_;have one:∀{w:World} {n:Nat} {G:SP} {x:Int} {K:ByteArray→WP},0≤x→x<10→au w0 S R w (ah n [.int .u8 (IntKind.u8.wrap (u64.wrap ((48:Int)+x)))]^G)→(au w0 S R w G→K (bA [UInt8.ofNat (48+x.toNat)]) w)→Gh ⟨some ⟨n,0⟩,1,1⟩ K w:=by
  intro w n G x K hx0 hx1 h k;rw[WB hx0 hx1]at h;have hG:=h.drop;have h:=h.ct n [.int .u8] [((UInt8.ofNat (48+x.toNat)).toNat:Int)] rfl (by simp);have h:au w0 S R w (aQ ⟨some ⟨n,0⟩,1,1⟩ [.int .u8] ([UInt8.ofNat (48+x.toNat)].map λb=>(b.toNat:Int))^G):=h;exact WJ [UInt8.ofNat (48+x.toNat)] h (k hG)
 refine ae (λc=>?_) λc=>?_
 ·have c:v<10:=bZ c;refine aD h λn1 w h=>one h0 c h λh=>?_;exact au.aH (by rw[XZ h0 c]) h
 ·have c:¬v<10:=cd c;have e1:u64.wrap (v.tdiv (10:Int))=v/10:=by rw[l_ h0];exact iy
  have e2:v.tmod (10:Int)=v%10:=B3 h0;have ht:=ih (v/10).toNat (by omega) (v/10) (by omega) (by omega) rfl;have hl:=kM (n:=v/10) (by omega);have hd:=XY (n:=v) (by omega);rw[e1,e2];have hc:∀{w:World},au w0 S R w bg→bA (dg (v/10))++bA [UInt8.ofNat (48+(v%10).toNat)]=bA (dg v):=λ_=>by rw[fJ,hd]
  refine aM h λw h=>⟨?_,?_⟩
  ·refine aq ht (h.le (aG _)) λr w h=>?_;obtain⟨hr,h⟩:=h.aP;rw[hr];refine aD h λn4 w h=>one (by omega) (by omega) h λh=>?_;refine fY (by simp only[gO];omega) (au.aH (by rw[fJ,hd]) h.bq)
  ·refine aD h λn6 w h=>⟨?_,?_⟩
   ·refine aq ht (h.le ((aG _).trans (aU _ _))) λr w h=>?_;obtain⟨hr,h⟩:=h.aP;rw[hr];refine one (by omega) (by omega) (h.take (ah n6 [.int .u8 (IntKind.u8.wrap (u64.wrap ((48:Int)+v%10)))])) λh=>?_;refine fY (by simp only[gO];omega) (au.aH (by rw[fJ,hd]) h.h_)
   ·refine one (by omega) (by omega) h λh=>?_;refine aq ht (h.le ((aG _).trans (aU _ _))) λr w h=>?_;obtain⟨hr,h⟩:=h.aP;rw[hr];refine fY (by simp only[gO];omega) (au.aH (by rw[fJ,hd]) h.h_)
theorem wb(v:Int)(h0:0≤v)(h1:v<18446744073709551616):bx (Mj v) bg (λr=>br (r=bA (dg v)) bg):=Oe v.toNat v h0 h1 rfl
theorem Gy(x:Int):dg (if x>(0:Int)then x else(0:Int))=dg x:=by
 unfold dg
 congr 1
 split<;>omega
theorem WR{x:Int}(h:x<9223372036854775808):u64.wrap (if x>(0:Int)then x else(0:Int))=(if x>(0:Int)then x else(0:Int)):=wu (by split<;>omega) (by split<;>omega)
end Xs

namespace YV
open rD Jq D_ yg Xs
abbrev KS:Ks:=[.int .i64,.int .u64,.int .i64,.int .u64,.bool]
abbrev zS:List Lf:=[aJ 0,aC 0,aJ 0,aC 0,a_ false]
theorem l32:(⟨#[32]⟩:ByteArray)=bA [32]:=rfl
theorem l58:(⟨#[58]⟩:ByteArray)=bA [58]:=rfl
theorem l10:(⟨#[10]⟩:ByteArray)=bA [10]:=rfl
theorem l43:(⟨#[43]⟩:ByteArray)=bA [43]:=rfl
theorem l45:(⟨#[45]⟩:ByteArray)=bA [45]:=rfl
theorem SL:(⟨#[32,64]⟩:ByteArray)=bA [32,64]:=rfl
theorem Yd:(⟨#[32,43]⟩:ByteArray)=bA [32,43]:=rfl
theorem Ye:(⟨#[32,45]⟩:ByteArray)=bA [32,45]:=rfl
theorem l0:(⟨#[]⟩:ByteArray)=bA []:=rfl
structure Zm(s:Sg):Prop where
 a:s.1<100
 b:s.2.1<100
 c:s.2.2.1<100
theorem FP(big sg)(hsg:sg.length≤1)(l xs)(hx:∀s∈xs,mN s)(hl:xs.length≤100000)(hb:big=false→∀s∈xs,Zm s):
  bx (YZ (bA sg) l) (bg^kX big^aZ l KS xs) (λr=>br (r=bA (oI (32::sg) xs)) bg):=
 bF λw0 S R h=>by
  rw[l32,l58];have hll:=((h.take (aZ l KS xs)).rd (s:=l)).2;refine Pa h λn1 w h=>?_;have h:au w0 S R w (F3 n1 (oI (32::sg) (xs.take (0:Int).toNat))^kX big^aZ l KS xs):=au.aK (A:=F3 n1 []^kX big^aZ l KS xs) h;refine cZ (λy:Int=>F3 n1 (oI (32::sg) (xs.take y.toNat))^kX big^aZ l KS xs) (λy:Int=>0≤y∧y≤xs.length) (λy:Int=>xs.length-y.toNat) h ⟨ig 0,by omega⟩ ?_;rintro(i:Int) w ⟨h0,h1⟩ h;refine ae (λc=>?_) λc=>?_
  ·have c:i<((l.len:Nat):Int):=bZ c;have hi:i.toNat<xs.length:=(by omega);obtain⟨s,hs⟩:∃s,xs[i.toNat]?=some s:=⟨_,bV hi⟩;have hm:=jr hs;have ok:=hx s hm;have fw:=λe=>hb e s hm;have d1:=kM (n:=s.1) (by have:=ok.k;omega);have d2:=kM ok.f.2;have d3:=kM (n:=s.2.2.1) (by have:=ok.n;omega);have hlen:=n_ (sign:=32::sg) (by simp only[fq];omega) (l:=xs.take i.toNat) (λq hq=>hx q (Dl hq));rw[fU]at hlen;have e:(i+1).toNat=i.toNat+1:=(by omega);have hsg':(32::sg).length≤2:=(by simp only[fq];omega);refine bT (s:=l) (h.take (aZ l KS xs)) h0 hi (eE (h.take (aZ l KS xs)) l i.toNat hs rfl (aD h λn6 w h=>aA h (by rfl) λw h=>aM h λw h=>?_));refine fY (by simp only[gO];omega) (aj (x:=s.1) h rfl (aj (x:=s.2.1) h rfl (aj (x:=s.2.2.1) h rfl ?_)));rw[fJ];refine bR (A:=bg) (Q:=kX big) (uj big s.1 ok.k (λe=>(fw e).a)) h λr w h=>?_;obtain⟨hr,h⟩:=h.aP;rw[hr,zh];refine aN h rfl (aN h rfl ?_);rw[fJ,fJ];refine fY (by simp only[eQ,fq,iE];omega) (fY (by simp only[eQ,fq,iE];omega) ?_);refine bR (A:=bg) (Q:=kX big) (EO big s.2.1 ok.f.1 ok.f.2 (λe=>(fw e).b)) h λr w h=>?_;obtain⟨hr,h⟩:=h.aP;rw[hr,zh];refine aN h rfl ?_;rw[fJ,fJ];refine fY (by simp only[eQ,fq,iE];omega) (fY (by simp only[eQ,fq,iE];omega) ?_);refine bR (A:=bg) (Q:=kX big) (uj big s.2.2.1 ok.n (λe=>(fw e).c)) h λr w h=>?_;obtain⟨hr,h⟩:=h.aP;rw[hr,zh];rw[fJ];refine fY (by simp only[eQ,fq,iE];omega) ?_;have et:[32]++sg++dg s.1++[58]++dg s.2.1++[58]++dg s.2.2.1=(32::sg)++KY s:=(by unfold KY;simp[iD]);rw[et];have hT:=I8 ok;refine aq (A0 n1 (oI (32::sg) (xs.take i.toNat)) (bA ((32::sg)++KY s)) (by rw[nQ,eQ];omega)) h λ_ w h=>?_;rw[Et]at h;have h:au w0 S R w (F3 n1 (oI (32::sg) (xs.take i.toNat)++((32::sg)++KY s))^kX big^aZ l KS xs):=h.aK;rw[←FQ hs,←e]at h;rw[fu (n:=i+1)];exact⟨⟨⟨by omega,by omega⟩,h⟩,by omega⟩
  ·have c:¬i<((l.len:Nat):Int):=cd c;have e:xs.take i.toNat=xs:=kF (by omega);rw[e]at h;refine aq (OW n1 (oI (32::sg) xs)) h λr w h=>?_;obtain⟨hr,h⟩:=h.aP;exact au.aH hr h.h_
theorem Cd(sg)(hsg:sg.length≤2)(l xs)(hx:∀s∈xs,mN s)(hl:xs.length≤100000):
  bx (Y0 (bA sg) l) (bg^aZ l KS xs) (λr=>br (r=bA (oI sg xs)) bg):=
 bF λw0 S R h=>by
  rw[l58,l0];have h:au w0 S R w0 (aZ l KS xs):=h.drop;have hll:=(h.rd (s:=l)).2;refine cZ (λ_:ByteArray×Int=>aZ l KS xs) (λy:ByteArray×Int=>(0≤y.2∧y.2≤xs.length)∧y.1=bA (oI sg (xs.take y.2.toNat))) (λy:ByteArray×Int=>xs.length-y.2.toNat) h ⟨⟨ig 0,by show(0:Int)≤_;omega⟩,rfl⟩ ?_;rintro(⟨t,i⟩:ByteArray×Int) w ⟨⟨h0,h1⟩,ht⟩ h;dsimp only at h0 h1 ht h⊢;rw[ht];refine ae (λc=>?_) λc=>?_
  ·have c:i<((l.len:Nat):Int):=bZ c;have hi:i.toNat<xs.length:=(by omega);obtain⟨s,hs⟩:∃s,xs[i.toNat]?=some s:=⟨_,bV hi⟩;have ok:=hx s (jr hs);have d1:=kM (n:=s.1) (by have:=ok.k;omega);have d2:=kM ok.f.2;have d3:=kM (n:=s.2.2.1) (by have:=ok.n;omega);have hlen:=n_ (sign:=sg) hsg (l:=xs.take i.toNat) (λq hq=>hx q (Dl hq));rw[fU]at hlen;have e:(i+1).toNat=i.toNat+1:=(by omega);have k1:∀{x:Int},x<9223372036854775808→0≤(if x>(0:Int)then x else(0:Int))∧(if x>(0:Int)then x else(0:Int))<18446744073709551616:=λ{x} _=>by split<;>omega
   refine aM h λw h=>fY (by omega) ?_;refine bT (s:=l) h h0 hi (bT (s:=l) h h0 hi (bT (s:=l) h h0 hi ?_));refine eh h l i.toNat 0 s hs rfl (by decide) (x:=s.1) rfl (eh h l i.toNat 1 s hs rfl (by decide) (x:=s.2.1) rfl (eh h l i.toNat 2 s hs rfl (by decide) (x:=s.2.2.1) rfl ?_));rw[fJ,WR ok.k,WR ok.n];refine aq (wb _ (k1 ok.k).1 (k1 ok.k).2) (h.le ((aG _).trans (aU _ _))) λr w h=>?_;obtain⟨hr,h⟩:=h.aP;rw[hr,Gy];have h:=h.drop;refine AW h l i.toNat 2 s hs rfl (by decide) rfl (AW h l i.toNat 1 s hs rfl (by decide) rfl ?_);rw[fJ,fJ];refine fY (by simp only[eQ];omega) (fY (by simp only[eQ,gO];omega) ?_);refine aI (wb _ ok.f.1 ok.f.2) (h.le ((aG _).trans (aU _ _))) λw h=>?_;have h:=h.drop;refine AW h l i.toNat 2 s hs rfl (by decide) rfl ?_;rw[fJ,fJ];refine fY (by simp only[eQ,gO];omega) (fY (by simp only[eQ,gO];omega) ?_);refine aq (wb _ (k1 ok.n).1 (k1 ok.n).2) (h.le ((aG _).trans (aU _ _))) λr w h=>?_;obtain⟨hr,h⟩:=h.aP;rw[hr,Gy];have h:=h.drop;rw[fJ];refine fY (by simp only[eQ,gO];omega) ?_;have et:oI sg (xs.take i.toNat)++sg++dg s.1++[58]++dg s.2.1++[58]++dg s.2.2.1=oI sg (xs.take i.toNat)++(sg++KY s):=by unfold KY;simp[iD]
   rw[et,←FQ hs,←e,fu (n:=i+1)];exact⟨⟨⟨⟨by show 0≤i+1;omega,by show i+1≤_;omega⟩,rfl⟩,h⟩,by show _-(i+1).toNat<_;omega⟩
  ·have c:¬i<((l.len:Nat):Int):=cd c;have e:xs.take i.toNat=xs:=kF (by omega);rw[e];exact au.aH rfl h.h_
end YV

namespace Cp
open rD Jq D_ yg Xs YV
abbrev gn:Ks:=[.sl,.sl,.sl,.int .u64]
abbrev KI:Ks:=[.int .i64]
abbrev OT:=Ks.T gn×List Sg×List Sg
def nW(p:OT):Ot:=(p.2.1,p.2.2,p.1.2.2.2)
def uF(p:OT):SP:=aZ p.1.1 KS p.2.1^aZ p.1.2.1 KS p.2.2
def zM(o:Sl)(os:List OT):SP:=aZ o gn (os.map Prod.fst)^rl uF os
theorem Ob{os:List OT}{i:Nat}{p:OT}(h:os[i]?=some p):Rd p.1.1 (rl uF os) KS p.2.1:=B8 h (by unfold uF;infer_instance)
theorem Oc{os:List OT}{i:Nat}{p:OT}(h:os[i]?=some p):Rd p.1.2.1 (rl uF os) KS p.2.2:=B8 h (by unfold uF;infer_instance)
structure Zn(o:Ot):Prop where
 a:∀s∈o.1,Zm s
 b:∀s∈o.2.1,Zm s
 w:o.2.2<100
theorem FU(big o e os)(es:List Int)(ho:∀p∈os,Su (nW p))(he:∀x∈es,x<9223372036854775808)(hl:es.length≤1000)(hb:big=false→(∀p∈os,Zn (nW p))∧∀x∈es,x<100):
  bx (YY o e) (bg^kX big^zM o os^aZ e KI es) (λr=>br (r=bA (YJ (os.map nW) es)) bg):=
 bF λw0 S R h=>by
  rw[l43,l45,l10,SL];have h:au w0 S R w0 (kX big^aZ o gn (os.map Prod.fst)^rl uF os^aZ e KI es):=h.drop.le (ba Le.rfl (bS _ _ _));have hol:=((h.take (aZ o gn (os.map Prod.fst))).rd (s:=o)).2;rw[fy]at hol;have hel:=((h.take (aZ e KI es)).rd (s:=e)).2;have hT:∀t∈os.map nW,Su t:=λt ht=>by
   obtain⟨p,hp,rfl⟩:=ma.1 ht;exact ho p hp
  have he':∀x∈es,x<18446744073709551616:=λx hx=>by have:=he x hx;omega
  have hall:(YJ (os.map nW) es).length≤12800043*es.length:=wz hT he' es.length;refine Pa h λn1 w h=>?_;have h:au w0 S R w (F3 n1 (wI (os.map nW) es (0:Int).toNat)^kX big^aZ o gn (os.map Prod.fst)^rl uF os^aZ e KI es):=h;refine cZ (λy:Int=>F3 n1 (wI (os.map nW) es y.toNat)^kX big^aZ o gn (os.map Prod.fst)^rl uF os^aZ e KI es) (λy:Int=>0≤y∧y≤es.length) (λy:Int=>es.length-y.toNat) h ⟨ig 0,by omega⟩ ?_;rintro(i:Int) w ⟨h0,h1⟩ h;refine ae (λc=>?_) λc=>?_
  ·have c:i<((e.len:Nat):Int):=bZ c;have hi:i.toNat<es.length:=(by omega);obtain⟨x,hx⟩:∃x,es[i.toNat]?=some x:=⟨_,bV hi⟩;have hxm:=jr hx;have hxl:=he x hxm;have d1:=kM (n:=x) (by omega);have hlen:=wz hT he' i.toNat;have ei:(i+1).toNat=i.toNat+1:=(by omega);refine bT (s:=e) (h.take (aZ e KI es)) h0 hi (eE (h.take (aZ e KI es)) e i.toNat hx rfl ?_);refine bR (A:=bg) (Q:=kX big) (uj big x hxl (λhb0=>(hb hb0).2 x hxm)) h λr w h=>?_;obtain⟨hr,h⟩:=h.aP;rw[hr,zh];refine aq (A0 n1 (wI (os.map nW) es i.toNat) (bA (dg x)) (by rw[nQ];omega)) h λ_ w h=>?_;rw[Et]at h;obtain⟨M,hM⟩:∃M,M=(match(os.map nW)[i.toNat]? with|some o=>Fe o|none=>([]:List UInt8)):=⟨_,rfl⟩;have hfin:wI (os.map nW) es (i.toNat+1)=wI (os.map nW) es i.toNat++dg x++M++[10]:=by
    have:IJ (os.map nW) i.toNat x=dg x++(M++[10]):=(by rw[hM];rfl);rw[O3 hx,this];simp[iD]
   have hMl:M.length≤12800022:=by
    rw[hM];split
    ·rename_i t ht;exact Ff (hT t (jr ht))
    ·exact iW _
   have h:au w0 S R w (F3 n1 (wI (os.map nW) es i.toNat++dg x)^kX big^aZ o gn (os.map Prod.fst)^rl uF os^aZ e KI es):=h.aK;refine aS h (λ_=>F3 n1 (wI (os.map nW) es i.toNat++dg x++M)^kX big^aZ o gn (os.map Prod.fst)^rl uF os^aZ e KI es) (λ_=>True) (λ_ w _ h=>?_) ?_
   ·refine aq (A0 n1 (wI (os.map nW) es i.toNat++dg x++M) (bA [10]) (by rw[nQ];simp only[eQ,gO];omega)) h λ_ w h=>?_;rw[Et,←hfin,←ei]at h;rw[fu (n:=i+1)];exact⟨⟨⟨by omega,by omega⟩,h⟩,by omega⟩
   ·refine ae (λc2=>?_) λc2=>?_
    ·have c2:i<((o.len:Nat):Int):=bZ c2;have hio:i.toNat<os.length:=(by omega);obtain⟨p,hp⟩:∃p,os[i.toNat]?=some p:=⟨_,bV hio⟩;have hpm:=jr hp;have hpf:(os.map Prod.fst)[i.toNat]?=some p.1:=(by rw[kV,hp];rfl);have hpt:(os.map nW)[i.toNat]?=some (nW p):=(by rw[kV,hp];rfl);have ok:=ho p hpm;have hMe:M=Fe (nW p):=by rw[hM,hpt]
     haveI:=Ob hp
     haveI:=Oc hp
     have fw:=λhb0=>(hb hb0).1 p hpm;have la:=n_ (sign:=[32,43]) (by decide) ok.a;have lb:=n_ (sign:=[32,45]) (by decide) ok.b;have lla:=ok.la;have llb:=ok.lb;refine bT (s:=o) (h.take (aZ o gn (os.map Prod.fst))) h0 (by rw[fy];exact hio) (eE (h.take (aZ o gn (os.map Prod.fst))) o i.toNat hpf rfl (aD h λn12 w h=>aA h (by rfl) λw h=>aM h λw h=>?_));refine aj (x:=p.1.1) h rfl (aj (x:=p.1.2.1) h rfl ?_);have h:au w0 S R w (kX big^ah n12 (Ks.mk gn p.1)^F3 n1 (wI (os.map nW) es i.toNat++dg x)^rl uF os^aZ o gn (os.map Prod.fst)^aZ e KI es):=h.aK;refine bR (A:=bg) (Q:=kX big^aZ p.1.1 KS p.2.1) (FP big [43] (by decide) p.1.1 p.2.1 ok.a ok.la (λhb0=>(fw hb0).a)) h λr w h=>?_;obtain⟨hr,h⟩:=h.aP;rw[hr];refine aN h rfl ?_;refine bR (A:=bg) (Q:=kX big^aZ p.1.2.1 KS p.2.2) (FP big [45] (by decide) p.1.2.1 p.2.2 ok.b ok.lb (λhb0=>(fw hb0).b)) h λr w h=>?_;obtain⟨hr,h⟩:=h.aP;rw[hr];refine fY (by show(oI [32,43] (nW p).1).length+(oI [32,45] (nW p).2.1).length≤_;omega) ?_;rw[fJ];refine aq (A0 n1 (wI (os.map nW) es i.toNat++dg x) (bA (oI [32,43] p.2.1++oI [32,45] p.2.2)) (by
      rw[nQ];simp only[eQ];show _+_+((oI [32,43] (nW p).1).length+(oI [32,45] (nW p).2.1).length)≤_;omega)) h λ_ w h=>?_
     rw[Et]at h;refine aj (x:=p.1.2.2.2) h rfl (ae (λc3=>?_) λc3=>?_)
     ·have c3:p.1.2.2.2≠0:=(by simpa using c3);have dw:=kM ok.w.2;refine aj (x:=p.1.2.2.2) h rfl (bR (A:=bg) (Q:=kX big) (EO big p.1.2.2.2 ok.w.1 ok.w.2 (λhb0=>(fw hb0).w)) h λr w h=>?_);obtain⟨hr,h⟩:=h.aP;rw[hr,zh];have dw:(dg p.1.2.2.2).length≤20:=dw;refine fY (by simp only[fq,iE];omega) ?_;rw[fJ];refine aq (A0 n1 (wI (os.map nW) es i.toNat++dg x++(oI [32,43] p.2.1++oI [32,45] p.2.2)) (bA ([32,64]++dg p.1.2.2.2)) (by
       rw[nQ];simp only[eQ,fq,iE];show _+_+((oI [32,43] (nW p).1).length+(oI [32,45] (nW p).2.1).length)+_≤_;omega)) h λ_ w h=>?_
      rw[Et]at h;have em:wI (os.map nW) es i.toNat++dg x++(oI [32,43] p.2.1++oI [32,45] p.2.2)++([32,64]++dg p.1.2.2.2)=wI (os.map nW) es i.toNat++dg x++M:=by
       rw[hMe];show _=_++(oI [32,43] p.2.1++(oI [32,45] p.2.2++(if p.1.2.2.2=0 then []else [32,64]++dg p.1.2.2.2)));rw[aw c3];simp[iD]
      rw[em]at h;exact⟨trivial,h.aK⟩
     ·have c3:p.1.2.2.2=0:=(by simpa using c3);have em:wI (os.map nW) es i.toNat++dg x++(oI [32,43] p.2.1++oI [32,45] p.2.2)=wI (os.map nW) es i.toNat++dg x++M:=by
       rw[hMe];show _=_++(oI [32,43] p.2.1++(oI [32,45] p.2.2++(if p.1.2.2.2=0 then []else [32,64]++dg p.1.2.2.2)));rw[aF c3];simp[iD]
      rw[em]at h;exact⟨trivial,h.aK⟩
    ·have c2:¬i<((o.len:Nat):Int):=cd c2;have hn:(os.map nW)[i.toNat]?=none:=q_ (by rw[fy];omega);have hMe:M=[]:=(by rw[hM,hn]);rw[hMe,qw];exact⟨trivial,h⟩
  ·have c:¬i<((e.len:Nat):Int):=cd c;have ei:i.toNat=es.length:=(by omega);rw[ei]at h;refine aq (OW n1 (wI (os.map nW) es es.length)) h λr w h=>?_;obtain⟨hr,h⟩:=h.aP;exact au.aH hr h.h_
end Cp

namespace ScD
open rD Jq D_ yg Xs YV Cp
theorem KT(o e os)(es:List Int)(ho:∀p∈os,Su (nW p))(he:∀x∈es,x<9223372036854775808)(hl:es.length≤1000):
  bx (ZE o e) (bg^zM o os^aZ e KI es) (λr=>br (r=bA (YJ (os.map nW) es)) bg):=
 bF λw0 S R h=>by
  rw[Yd,Ye,l10,SL,l0];have h:au w0 S R w0 (aZ o gn (os.map Prod.fst)^rl uF os^aZ e KI es):=h.drop.le (bS _ _ _);have hol:=((h.take (aZ o gn (os.map Prod.fst))).rd (s:=o)).2;rw[fy]at hol;have hel:=((h.take (aZ e KI es)).rd (s:=e)).2;have hT:∀t∈os.map nW,Su t:=λt ht=>by
   obtain⟨p,hp,rfl⟩:=ma.1 ht;exact ho p hp
  have he':∀x∈es,x<18446744073709551616:=λx hx=>by have:=he x hx;omega
  refine cZ (λ_:ByteArray×Int=>aZ o gn (os.map Prod.fst)^rl uF os^aZ e KI es) (λy:ByteArray×Int=>(0≤y.2∧y.2≤es.length)∧y.1=bA (wI (os.map nW) es y.2.toNat)) (λy:ByteArray×Int=>es.length-y.2.toNat) h ⟨⟨ig 0,by show(0:Int)≤_;omega⟩,rfl⟩ ?_;rintro(⟨t,i⟩:ByteArray×Int) w ⟨⟨h0,h1⟩,ht⟩ h;dsimp only at h0 h1 ht h⊢;rw[ht];refine ae (λc=>?_) λc=>?_
  ·have c:i<((e.len:Nat):Int):=bZ c;have hi:i.toNat<es.length:=(by omega);obtain⟨x,hx⟩:∃x,es[i.toNat]?=some x:=⟨_,bV hi⟩;have hxm:=jr hx;have hxl:=he x hxm;have d1:=kM (n:=x) (by omega);have hlen:=wz hT he' i.toNat;have ei:(i+1).toNat=i.toNat+1:=(by omega);have k1:0≤(if x>(0:Int)then x else(0:Int))∧(if x>(0:Int)then x else(0:Int))<18446744073709551616:=(by split<;>omega);have nx:∀{w:World} (M:List UInt8),IJ (os.map nW) i.toNat x=dg x++(M++[10])→au w0 S R w (aZ o gn (os.map Prod.fst)^rl uF os^aZ e KI es)→∀r:ByteArray,r=bA (wI (os.map nW) es i.toNat++dg x++M++[10])→
     (((0≤(r,i+1).2∧(r,i+1).2≤(es.length:Int))∧(r,i+1).1=bA (wI (os.map nW) es (r,i+1).2.toNat))∧au w0 S R w (aZ o gn (os.map Prod.fst)^rl uF os^aZ e KI es))∧es.length-(r,i+1).2.toNat<es.length-(t,i).2.toNat:=by
    intro w M hM h r hr;dsimp only;rw[ei,O3 hx,hM,hr];exact⟨⟨⟨⟨by omega,by omega⟩,by simp[iD]⟩,h⟩,by omega⟩
   rw[fu (n:=i+1)];refine bT (s:=e) (h.take (aZ e KI es)) h0 hi (eE (h.take (aZ e KI es)) e i.toNat hx rfl ?_);rw[WR hxl];refine aq (wb _ k1.1 k1.2) (h.le ((aG _).trans (aU _ _))) λr w h=>?_;obtain⟨hr,h⟩:=h.aP;rw[hr,Gy];have h:=h.drop;refine fY (by omega) ?_;rw[fJ];refine ae (λc2=>?_) λc2=>?_
   ·have c2:i<((o.len:Nat):Int):=bZ c2;have hio:i.toNat<os.length:=(by omega);obtain⟨p,hp⟩:∃p,os[i.toNat]?=some p:=⟨_,bV hio⟩;have hpm:=jr hp;have hpf:(os.map Prod.fst)[i.toNat]?=some p.1:=(by rw[kV,hp];rfl);have hpl:i.toNat<(os.map Prod.fst).length:=(by rw[fy];exact hio);have hpt:(os.map nW)[i.toNat]?=some (nW p):=(by rw[kV,hp];rfl);have ok:=ho p hpm
    haveI:=Ob hp
    haveI:=Oc hp
    have la:(oI [32,43] p.2.1).length≤64*p.2.1.length:=n_ (sign:=[32,43]) (by decide) ok.a;have lb:(oI [32,45] p.2.2).length≤64*p.2.2.length:=n_ (sign:=[32,45]) (by decide) ok.b;have lla:p.2.1.length≤100000:=ok.la;have llb:p.2.2.length≤100000:=ok.lb;have hM:IJ (os.map nW) i.toNat x=dg x++(Fe (nW p)++[10]):=(by unfold IJ;rw[hpt]);have hoR:=h.take (aZ o gn (os.map Prod.fst));refine aM h λw h=>?_;have hoR:=h.take (aZ o gn (os.map Prod.fst));refine bT (s:=o) hoR h0 hpl (bT (s:=o) hoR h0 hpl ?_);refine eh hoR o i.toNat 0 p.1 hpf rfl (by decide) (x:=p.1.1) rfl (eh hoR o i.toNat 1 p.1 hpf rfl (by decide) (x:=p.1.2.1) rfl ?_);refine bR (A:=bg) (Q:=aZ p.1.1 KS p.2.1) (Cd [32,43] (by decide) p.1.1 p.2.1 ok.a ok.la) (h.le ((aG _).trans (aU _ _))) λr w h=>?_;obtain⟨hr,h⟩:=h.aP;rw[hr];have h:=h.drop;have hoR:=h.take (aZ o gn (os.map Prod.fst));refine AW hoR o i.toNat 1 p.1 hpf rfl (by decide) rfl (fY (by simp only[eQ];omega) ?_);rw[fJ];refine bR (A:=bg) (Q:=aZ p.1.2.1 KS p.2.2) (Cd [32,45] (by decide) p.1.2.1 p.2.2 ok.b ok.lb) (h.le ((aG _).trans (aU _ _))) λr w h=>?_;obtain⟨hr,h⟩:=h.aP;rw[hr];have h:=h.drop;have hoR:=h.take (aZ o gn (os.map Prod.fst));refine fY (by simp only[eQ];omega) ?_;rw[fJ];refine bT (s:=o) hoR h0 hpl (eh hoR o i.toNat 3 p.1 hpf rfl (by decide) (x:=p.1.2.2.2) rfl (ae (λc3=>?_) λc3=>?_))
    ·have c3:p.1.2.2.2≠0:=(by simpa using c3);have dw:(dg p.1.2.2.2).length≤20:=kM ok.w.2;refine fY (by simp only[eQ,fq,iE];omega) (bT (s:=o) hoR h0 hpl (eh hoR o i.toNat 3 p.1 hpf rfl (by decide) (x:=p.1.2.2.2) rfl ?_));refine aI (wb p.1.2.2.2 ok.w.1 ok.w.2) (h.le ((aG _).trans (aU _ _))) λw h=>?_;have h:=h.drop;rw[fJ];refine fY (by simp only[eQ,fq,iE];omega) ?_;rw[fJ];refine fY (by simp only[eQ,fq,iE];omega) ?_;rw[fJ];refine nx _ hM h _ ?_;show bA _=bA (_++(oI [32,43] p.2.1++(oI [32,45] p.2.2++(if p.1.2.2.2=0 then []else [32,64]++dg p.1.2.2.2)))++[10]);rw[aw c3];simp[iD]
    ·have c3:p.1.2.2.2=0:=(by simpa using c3);refine fY (by simp only[eQ,fq,iE];omega) ?_;rw[fJ];refine nx _ hM h _ ?_;show bA _=bA (_++(oI [32,43] p.2.1++(oI [32,45] p.2.2++(if p.1.2.2.2=0 then []else [32,64]++dg p.1.2.2.2)))++[10]);rw[aF c3];simp[iD]
   ·have c2:¬i<((o.len:Nat):Int):=cd c2;have hn:(os.map nW)[i.toNat]?=none:=q_ (by rw[fy];omega);have hM:IJ (os.map nW) i.toNat x=dg x++([]++[10]):=(by unfold IJ;rw[hn]);refine fY (by simp only[eQ,fq,iE];omega) ?_;rw[fJ];exact nx [] hM h _ (by rw[qw];rfl)
  ·have c:¬i<((e.len:Nat):Int):=cd c;have ei:i.toNat=es.length:=(by omega);rw[ei];exact au.aH rfl h.h_
end ScD

end Go.X
