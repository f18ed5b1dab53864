/- Contracts. -/
import Derived.BigCall
import Derived.BigGuard
import Derived.CallsIn
import Derived.Laws.Externs
import Derived.Lib.AppendStr
import Derived.Lib.Builder
import Derived.Lib.ItoaMem
import Derived.Lib.ItoaNum
import Derived.Lib.LaidTab
import Derived.Lib.Strings
import Derived.Lib.UnsafeStr
import Derived.Lib.Walk
import Derived.Shelf.Strconv.Itoa3
import Derived.WalkKit
import Derived.Test.YtniflenfpbbikaaGreatDoorB4
set_option linter.all false
set_option autoImplicit true
set_option relaxedAutoImplicit true
namespace Go.X
open IntKind (u64 i64)
open Go.Proofs
namespace xH
open bH bp lL iU ff
open eI (Sk cq cv eM io iO)
abbrev Ct:=Int×Int×Int×Int×Int×Int×Int×Int
abbrev Ly:Ct:=(0,0,0,0,0,0,0,0)
abbrev tO(c:Ct):Int:=c.2.2.2.2.2.2.2
abbrev inc(n:Int):Int:=i64.wrap (n+1)
abbrev dec(n:Int):Int:=i64.wrap (n-1)
def XP(c:Ct)(f:Int):Int:=if f=0 then c.2.1 else if f=1 then c.2.2.1 else if f=2 then c.2.2.2.1 else if f=3 then c.2.2.2.2.1 else if f=4 then c.2.2.2.2.2.1 else c.2.2.2.2.2.2.1
def ux(c:Ct)(f:Int):Ct:=
 if f=0 then(c.1,inc c.2.1,c.2.2.1,c.2.2.2.1,c.2.2.2.2.1,c.2.2.2.2.2.1,c.2.2.2.2.2.2.1,c.2.2.2.2.2.2.2)
 else if f=1 then(c.1,c.2.1,inc c.2.2.1,c.2.2.2.1,c.2.2.2.2.1,c.2.2.2.2.2.1,c.2.2.2.2.2.2.1,c.2.2.2.2.2.2.2)
 else if f=2 then(c.1,c.2.1,c.2.2.1,inc c.2.2.2.1,c.2.2.2.2.1,c.2.2.2.2.2.1,c.2.2.2.2.2.2.1,c.2.2.2.2.2.2.2)
 else if f=3 then(c.1,c.2.1,c.2.2.1,c.2.2.2.1,inc c.2.2.2.2.1,c.2.2.2.2.2.1,c.2.2.2.2.2.2.1,c.2.2.2.2.2.2.2)
 else if f=4 then(c.1,c.2.1,c.2.2.1,c.2.2.2.1,c.2.2.2.2.1,inc c.2.2.2.2.2.1,c.2.2.2.2.2.2.1,c.2.2.2.2.2.2.2)
 else(c.1,c.2.1,c.2.2.1,c.2.2.2.1,c.2.2.2.2.1,c.2.2.2.2.2.1,inc c.2.2.2.2.2.2.1,c.2.2.2.2.2.2.2)
abbrev wait(c:Ct)(q:Int):Ct:=(c.1,c.2.1,c.2.2.1,c.2.2.2.1,c.2.2.2.2.1,c.2.2.2.2.2.1,c.2.2.2.2.2.2.1,q)
def iP(c:Ct)(f:Int):Int×Ct:=
 if f<0∨f≥6 then(1,c)else if f=0 then(0,ux (wait c (inc (tO c))) f)else if tO c=0 then(7,c)else(0,ux (wait c (dec (tO c))) f)
def gZ{α:Type}(l:Nat→α)(i:Nat)(x:α):Nat→α:=λj=>if j=i then x else l j
theorem fu(l:Nat→α)(i:Nat)(x:α):gZ l i x i=x:=by simp[gZ]
theorem ki(l:Nat→α)(x:α)(h:j≠i):gZ l i x j=l j:=by simp[gZ,h]
theorem Pd(l:Nat→α)(i:Nat):gZ l i (l i)=l:=funext λj=>by unfold gZ;split<;>simp_all
def gx(l:Nat→Ct)(s f:Int):Int×(Nat→Ct):=if s<0∨s≥8 then(8,l)else((iP (l s.toNat) f).1,gZ l s.toNat (iP (l s.toNat) f).2)
def VJ(l:Nat→Ct)(s:Int):Ct:=if s<0∨s≥8 then Ly else(s,(l s.toNat).2)
structure Mc where
 c:Cf
 aj:Int
 so:Nat→Option Sk
 q:Qm
 l:Nat→Ct
abbrev dH(c:Cf):Mc:=⟨c,0,λ_=>none,Da c,λ_=>Ly⟩
structure Ou where
 oo:List Sg
 dr:List Sg
 ft:List Int
 wd:Int
abbrev fk:Ou:=⟨[],[],[],0⟩
def iN(aj lg:Int):Int×Int:=if lg>4611686018427387904 then(3,aj)else if lg<aj then(4,aj)else(0,lg)
def qz(x:Option Sk):Int:=match x with
 |none=>18446744073709551615
 |some v=>v.md.ba
def b_(so:Nat→Option Sk):List Int:=[qz (so 0),qz (so 1),qz (so 2),qz (so 3),qz (so 4),qz (so 5),qz (so 6),qz (so 7)]
def fN(v:Mc)(o:Ou):Ou×Mc:=
 match jW v.q v.aj (b_ v.so)with
 |(some s,q)=>({o with oo:=[s]},{v with q:=q,l:=(gx v.l (sK s) 1).2})
 |(none,q)=>(if(nW q.ks).2 then{o with wd:=if 1>(nW q.ks).1.1 then 1 else(nW q.ks).1.1}else o,{v with q:=q})
def rH(v:Mc)(c:Cf):Int×Mc:=if(qX v.q c).1=0 then(0,{v with q:=(qX v.q c).2,c:=c})else((qX v.q c).1,{v with q:=(qX v.q c).2})
def cy(l:Nat→Ct)(o:Ou)(s:Sg)(f:Int):Ou×(Nat→Ct):=({o with dr:=o.dr++[s],ft:=o.ft++[f]},(gx l (sK s) f).2)
structure Pm where
 v:Sk
 q:Qm
 l:Nat→Ct
 o:Ou
def fresh(v:Sk):Nat:=(bW v.bf-bN v.bf).toNat+v.bd.1.countP (λp=>fb.jO p)
where
 bW (b:eY.Bf):Int:=b.1
 bN (b:eY.Bf):Int:=b.2.1
def enter(i aj:Int)(s:Pm):Pm×Int:=
 let g:=(cq s.v aj).1.1
 let e:=fG s.q g aj
 if e.1.1=0 then(⟨(cq s.v aj).2,e.2,(gx s.l i 0).2,s.o⟩,0)
 else(⟨(cv (cq s.v aj).2 g.2.2.1).2,e.2,(cy (gx s.l i 0).2 s.o g e.1.1).2,(cy (gx s.l i 0).2 s.o g e.1.1).1⟩,1)
def na(i aj:Int):Nat→Pm→Pm
 |0,s=>s
 |k+1,s=>if(cq s.v aj).1.2≠0 then{s with v:=(cq s.v aj).2}else if(enter i aj s).2=0 then na i aj k (enter i aj s).1 else(enter i aj s).1
def pj(i aj:Int)(s:Pm):Pm:=na i aj (fresh s.v+1) s
def mC(v:Mc)(i:Nat)(x:Sk)(o:Ou):Ou×Mc:=
 ((pj i v.aj ⟨x,v.q,v.l,o⟩).o,{v with so:=gZ v.so i (some (pj i v.aj ⟨x,v.q,v.l,o⟩).v),q:=(pj i v.aj ⟨x,v.q,v.l,o⟩).q,l:=(pj i v.aj ⟨x,v.q,v.l,o⟩).l})
def dj(l:Nat→Ct)(o:Ou):List Sg→Ou×(Nat→Ct)
 |[]=>(o,l)
 |s::ss=>dj (cy l o s 5).2 (cy l o s 5).1 ss
def oD(v:Mc)(i:Nat)(o:Ou):Ou×Mc:=
 ((dj v.l o (cO v.q i).1).1,{v with so:=gZ v.so i none,q:=(cO v.q i).2,l:=(dj v.l o (cO v.q i).1).2})
abbrev KD:Ks:=[.int .i64,.int .i64,.int .i64,.int .u64,.int .u64,.sl,.int .i64,.int .i64,.int .i64,.int .i64,.int .u64,.int .u64,.bool,.int .i64,.int .i64]
abbrev Dd:=Ks.T KD
abbrev dK(d:Dd):Int:=d.1
abbrev dS(d:Dd):Int:=d.2.1
abbrev dL(d:Dd):Int:=d.2.2.1
abbrev dU(d:Dd):Int:=d.2.2.2.1
abbrev dA(d:Dd):Int:=d.2.2.2.2.1
abbrev dR(d:Dd):Sl:=d.2.2.2.2.2.1
abbrev dC(d:Dd):Cf:=d.2.2.2.2.2.2
def dJ(v:Sk)(aj:Int)(d:Dd)(xs:List (Int×Int)):Int×Sk:=
 if dK d=2 then eM v (dL d)else if dK d=3 then nA.om v aj (dU d) xs else if dK d=4 then(0,io v aj)else cv v (dL d)
def jf(v:Mc)(d:Dd)(xs:List (Int×Int))(o:Ou):Int×Ou×Mc:=
 if ¬(0≤dS d∧dS d<8)then(8,o,v)
 else match v.so (dS d).toNat with
  |none=>if dK d=1 then(0,o,{v with so:=gZ v.so (dS d).toNat (some (iO (dS d) (eU v.c) (dZ v.c)))})else(10,o,v)
  |some x=>if dK d=1 then(9,o,v)else if dK d=9 then(0,(oD v (dS d).toNat o).1,(oD v (dS d).toNat o).2)
   else if(dJ x v.aj d xs).1=0 then(0,(mC v (dS d).toNat (dJ x v.aj d xs).2 o).1,(mC v (dS d).toNat (dJ x v.aj d xs).2 o).2)
   else((dJ x v.aj d xs).1,o,{v with so:=gZ v.so (dS d).toNat (some (dJ x v.aj d xs).2)})
def vN(k:Int):Bool:=k==1||k==2||k==3||k==4||k==7||k==9
def eC(v:Mc)(d:Dd)(xs:List (Int×Int)):Int×Ou×Mc:=
 if dK d=5 then((iN v.aj (dA d)).1,fk,{v with aj:=(iN v.aj (dA d)).2})
 else if dK d=6 then(0,(fN v fk).1,(fN v fk).2)
 else if dK d=8 then((rH v (dC d)).1,fk,(rH v (dC d)).2)
 else if vN (dK d)then jf v d xs fk
 else(12,fk,v)
def ri(v:Mc)(d:Dd)(xs:List (Int×Int)):(Ou×Int)×Mc:=
 if(eC v d xs).1≠0 then((fk,(eC v d xs).1),(eC v d xs).2.2)else(((eC v d xs).2.1,0),(eC v d xs).2.2)
end xH

namespace A9
open bH bp lL xH
theorem qd(s)(t:Int):bu (ZS s) (bg^aV s KU [t]) (λr=>bs (r=if t≥4611686018427387904 then 4611686018427387904 else t) bg):=
 bC λw0 S R h=>by
  have h:au w0 S R w0 (aV s KU [t]^bg):=h.aI;have hs:s.len=1:=(h.rd (s:=s)).2;have e1:i64.wrap ((0:Int)+1)=1:=rfl;refine cS (λ_:Int×Int=>aV s KU [t]^bg) (λy:Int×Int=>y=(4611686018427387904,0)∨y=((if t≥4611686018427387904 then 4611686018427387904 else t),1)) (λy:Int×Int=>(1-y.2).toNat) h (.inl rfl) ?_;rintro(y:Int×Int) w hy h;rcases hy with rfl|rfl
  ·refine ae (λ_=>?_) λc=>(by rw[hs]at c;cases c);refine bS (s:=s) h (by decide) (by simp) (dP h s 0 (y:=t) rfl rfl ?_);dsimp only;rw[e1];refine ae (λc=>?_) λc=>?_
   ·have c:t≥4611686018427387904:=bV c;exact⟨⟨.inr (by rw[aG c]),h⟩,by show(1-(1:Int)).toNat<(1-(0:Int)).toNat;decide⟩
   ·have c:¬t≥4611686018427387904:=bY c;exact⟨⟨.inr (by rw[ay c]),h⟩,by show(1-(1:Int)).toNat<(1-(0:Int)).toNat;decide⟩
  ·refine ae (λc=>(by rw[hs]at c;cases c)) λ_=>?_;exact au.aH rfl h.gm
theorem zb:bu (ZG 0) bg (λr=>ex λb:Nat=>bs (r=some ⟨b,0⟩) (af b [aB 0])):=
 bC λw0 S R h=>by
  refine aD (h.le (aJ _)) λn1 w h=>?_;have h:=h.co n1 KU [0] rfl (by simp);have h:au w0 S R w (aS ⟨some ⟨n1,0⟩,1,1⟩ KU [0]^_):=h;refine bP (A:=bg) (Q:=aV ⟨some ⟨n1,0⟩,1,1⟩ KU [0]) (qd ⟨some ⟨n1,0⟩,1,1⟩ 0) (h.le ((aJ _).trans (be _ _))) λr w h=>?_;obtain⟨hr,h⟩:=h.aP;rw[hr];refine aD h λn3 w h=>?_;exact au.ie n3 (au.aH rfl h.br)
theorem Nt(b)(aj to':Int):bu (ZI (some ⟨b,0⟩) to') (af b [aB aj]) (λr=>bs (r=(iN aj to').1) (af b [aB (iN aj to').2])):=
 bC λw0 S R h=>by
  refine ae (λc=>(by simp at c)) λ_=>ae (λc=>?_) λc=>?_
  ·have c:to'>4611686018427387904:=bV c;rw[show iN aj to'=(3,aj) by unfold iN;rw[aG c]];exact au.aH rfl h
  ·have c:¬to'>4611686018427387904:=bY c;refine ac (ah (x:=aj) h rfl (ae (λc2=>?_) λc2=>?_))
   ·have c2:to'<aj:=bV c2;rw[show iN aj to'=(4,aj) by unfold iN;rw[ay c,aG c2]];exact au.aH rfl h
   ·have c2:¬to'<aj:=bY c2;rw[show iN aj to'=(0,to') by unfold iN;rw[ay c,ay c2]];refine ac (az h (by rfl) λw h=>?_);exact au.aH rfl h.aI
theorem RC(b)(aj:Int):bu (Z9 (some ⟨b,0⟩)) (af b [aB aj]) (λr=>bs (r=aj) (af b [aB aj])):=
 bC λw0 S R h=>by
  refine ae (λc=>(by simp at c)) λ_=>ac (ah (x:=aj) h rfl ?_);exact au.aH rfl h
abbrev PA:Ks:=[.int .i64,.int .i64,.int .i64,.int .i64,.int .i64,.int .i64,.int .i64,.int .i64]
abbrev rows(l:Nat→Ct):List Ct:=[l 0,l 1,l 2,l 3,l 4,l 5,l 6,l 7]
theorem S5(h:i<8):i=0∨i=1∨i=2∨i=3∨i=4∨i=5∨i=6∨i=7:=by omega
theorem wk(l)(h:i<8):(rows l)[i]?=some (l i):=by rcases S5 h with rfl|rfl|rfl|rfl|rfl|rfl|rfl|rfl<;>rfl
theorem OB(l x)(h:i<8):(rows l).set i x=rows (gZ l i x):=by rcases S5 h with rfl|rfl|rfl|rfl|rfl|rfl|rfl|rfl<;>rfl
def vc(b:Nat)(l:Nat→Ct):SP:=aS ⟨some ⟨b,0⟩,8,8⟩ PA (rows l)
instance(b:Nat)(l:Nat→Ct):nl (vc b l):=by unfold vc;infer_instance
theorem zH:bu ZH bg (λr=>ex λb:Nat=>bs (r=some ⟨b,0⟩) (vc b (λ_=>Ly))):=
 bC λw0 S R h=>by
  refine aD h λn1 w h=>?_;have h:=h.co n1 PA (rows (λ_=>Ly)) rfl (by simp);exact au.ie n1 (au.aH rfl (show au w0 S R w (vc n1 (λ_=>Ly)^bg)from h).br)
theorem Ni(b)(s:Int):bu (TM (some ⟨b,0⟩) s) bg (λr=>bs (r=if s<0∨s≥8 then 8 else 0) bg):=
 bC λw0 S R h=>by
  refine ae (λc=>(by simp at c)) λ_=>ae (λc=>?_) λc=>?_
  ·have c:s<0∨s≥8:=cC;exact au.aH (by rw[aG c]) h
  ·have c:¬(s<0∨s≥8):=cC;exact au.aH (by rw[ay c]) h
theorem S4{f:Int}(h:¬(f<0∨f≥6)):f=0∨f=1∨f=2∨f=3∨f=4∨f=5:=by omega
theorem zQ(b l)(s f:Int):bu (SR (some ⟨b,0⟩) s f) (vc b l) (λr=>bs (r=(gx l s f).1) (vc b (gx l s f).2)):=
 bC λw0 S R h=>by
  have h:au w0 S R w0 (vc b l^bg):=h.le (aJ _);refine aK (Ni b s) (h.le ((aJ _).trans (be _ _))) λw h=>?_;refine ae (λc=>?_) λc=>?_
  ·by_cases c1:s<0∨s≥8
   ·rw[show gx l s f=(8,l) by unfold gx;rw[aG c1],aG c1];exact au.aH rfl h.aI
   ·rw[ay c1]at c;cases c
  ·have c1:¬(s<0∨s≥8):=λx=>by rw[aG x]at c;cases c
   have hi:s.toNat<8:=(by omega);obtain⟨i,hii⟩:∃i,i=s.toNat:=⟨_,rfl⟩;have en:gx l s f=((iP (l i) f).1,gZ l i (iP (l i) f).2):=(by unfold gx;rw[ay c1,hii]);rw[en,←hii];rw[←hii]at hi;have h:au w0 S R w (aS ⟨some ⟨b,0⟩,8,8⟩ PA (rows l)^bg):=h.aI (A:=vc b l^bg);have toL:∀{w:World} (x:Ct),au w0 S R w (aS ⟨some ⟨b,0⟩,8,8⟩ PA ((rows l).set i x)^bg)→au w0 S R w (vc b (gZ l i x)):=λ{w} x h=>by rw[OB l x hi]at h;exact h.br
   have same:∀{w:World},au w0 S R w (aS ⟨some ⟨b,0⟩,8,8⟩ PA (rows l)^bg)→au w0 S R w (vc b (gZ l i (l i))):=λ{w} h=>by rw[Pd];exact h.br
   refine ac ⟨by omega,?_⟩;by_cases c2:f<0∨f≥6
   ·have e1:iP (l i) f=(1,l i):=(by unfold iP;rw[aG c2]);rw[e1];refine⟨λ_ _=>False,λ_ _ hx=>hx.elim,?_⟩;refine ae (λ_=>au.aH rfl (same h)) λc=>?_;have c:¬(f<0∨f≥6):=cC;exact absurd c2 c
   ·have step:∀{w:World} (y z:Ct),(∀g,g=f→Ks.mk PA z=fa (Ks.mk PA y) (1+f.toNat) [aE (inc (XP y f))])→au w0 S R w (aS ⟨some ⟨b,0⟩,8,8⟩ PA ((rows l).set i y)^bg)→z=(iP (l i) f).2→(iP (l i) f).1=0→
      bR (aC (some ⟨b,0+i*8⟩) λq13=>aC (some ⟨b,0+i*8⟩) λq14=>eA (0≤f∧f<6)<|ld [.int .i64] ⟨q13.b,q13.o+1+f.toNat*1⟩ λ(x15:Int)=>eA (0≤f∧f<6)<|st ⟨q14.b,q14.o+1+f.toNat*1⟩ [aE (i64.wrap (x15+(1:Int)))]<|λw'=>au w0 S R w' (bs ((0:Int)=(iP (l i) f).1) (vc b (gZ l i (iP (l i) f).2)))) w:=by
     intro w y z hz h e0 e1;have hy:((rows l).set i y)[i]?=some y:=by rw[sD (by show i<8;exact hi)]
     refine aM h λw h=>ac (ac ⟨by omega,?_⟩);refine fj h ⟨some ⟨b,0⟩,8,8⟩ i (1+f.toNat) y hy (by show(⟨b,0+i*8+1+f.toNat*1⟩:Pt)=⟨b,0+i*8+(1+f.toNat)⟩;rw[Nat.mul_one,DG (0+i*8)]) (by show 1+f.toNat≤8;omega) (x:=XP y f) (by
      rcases S4 c2 with rfl|rfl|rfl|rfl|rfl|rfl<;>rfl) ?_
     refine⟨by omega,?_⟩;refine mG h ⟨some ⟨b,0⟩,8,8⟩ i (1+f.toNat) y z hy (by show(⟨b,0+i*8+1+f.toNat*1⟩:Pt)=⟨b,0+i*8+(1+f.toNat)⟩;rw[Nat.mul_one,DG (0+i*8)]) (by show 1+f.toNat+1≤8;omega) (by simp) (hz f rfl) λw h=>?_;rw[Hy,e0]at h;exact au.aH e1.symm (toL _ h)
    refine aQ h (λ_=>aS ⟨some ⟨b,0⟩,8,8⟩ PA ((rows l).set i (if f=0 then wait (l i) (inc (tO (l i)))else wait (l i) (dec (tO (l i)))))^bg) (λ_=>f=0∨tO (l i)≠0) (λ_ w hj h=>?_) ?_
    ·by_cases c3:f=0
     ·rw[aG c3]at h;have e1:iP (l i) f=(0,ux (wait (l i) (inc (tO (l i)))) f):=by unfold iP;rw[ay c2,aG c3]
      refine step (wait (l i) (inc (tO (l i)))) (ux (wait (l i) (inc (tO (l i)))) f) (λ_ _=>?_) h (by rw[e1]) (by rw[e1]);rw[c3];rfl
     ·rw[ay c3]at h;have hw:¬tO (l i)=0:=λx=>hj.elim c3 λy=>y x;have e1:iP (l i) f=(0,ux (wait (l i) (dec (tO (l i)))) f):=by unfold iP;rw[ay c2,ay c3,ay hw]
      refine step (wait (l i) (dec (tO (l i)))) (ux (wait (l i) (dec (tO (l i)))) f) (λ_ _=>?_) h (by rw[e1]) (by rw[e1]);rcases S4 c2 with rfl|rfl|rfl|rfl|rfl|rfl<;>rfl
    ·refine ae (λc=>?_) λ_=>?_
     ·have c:f<0∨f≥6:=cC;exact absurd c c2
     refine ae (λc3=>?_) λc3=>?_
     ·have c3:f=0:=(by simpa using c3);refine ac (fj h ⟨some ⟨b,0⟩,8,8⟩ i 7 (l i) (wk l hi) rfl (by decide) (x:=tO (l i)) rfl (ac ?_));refine mG h ⟨some ⟨b,0⟩,8,8⟩ i 7 (l i) (wait (l i) (inc (tO (l i)))) (wk l hi) rfl (by show 7+1≤8;decide) (by simp) rfl λw h=>?_;exact⟨.inl c3,by rw[aG c3];exact h⟩
     ·have c3:¬f=0:=(by simpa using c3);refine ac (fj h ⟨some ⟨b,0⟩,8,8⟩ i 7 (l i) (wk l hi) rfl (by decide) (x:=tO (l i)) rfl ?_);refine ae (λc4=>?_) λc4=>?_
      ·have c4:tO (l i)=0:=(by simpa using c4);rw[show iP (l i) f=(7,l i) by unfold iP;rw[ay c2,ay c3,aG c4]];exact au.aH rfl (same h)
      ·have c4:¬tO (l i)=0:=(by simpa using c4);refine ac (fj h ⟨some ⟨b,0⟩,8,8⟩ i 7 (l i) (wk l hi) rfl (by decide) (x:=tO (l i)) rfl (ac ?_));refine mG h ⟨some ⟨b,0⟩,8,8⟩ i 7 (l i) (wait (l i) (dec (tO (l i)))) (wk l hi) rfl (by show 7+1≤8;decide) (by simp) rfl λw h=>?_;exact⟨.inr c4,by rw[ay c3];exact h⟩
end A9

namespace yM
open bH bp lL lN fe xH A9
open eI (Sk cq cv eM io iO cZ bB)
abbrev mL(c:Cf)(ck:Nat)(p:Nat→bO)(q l:Nat):List Lf:=[aE (cQ c),aE (cF c),aE (cL c),aE (cW c),aB (cH c),aB (cR c),bc (cD c),aE (dZ c),aE (eU c),.ptr (some ⟨ck,0⟩),.ptr (p 0),.ptr (p 1),.ptr (p 2),.ptr (p 3),.ptr (p 4),.ptr (p 5),.ptr (p 6),.ptr (p 7),.ptr (some ⟨q,0⟩),.ptr (some ⟨l,0⟩)]
theorem S6(c ck p q l i)(hi:i<8):Ks.un [.ptr] (((mL c ck p q l).drop (0+10+i*1)).take 1)=some (p i):=by rcases S5 hi with rfl|rfl|rfl|rfl|rfl|rfl|rfl|rfl<;>rfl
theorem S7(c ck p q l i)(hi:i<8)(x):dE (mL c ck p q l) (0+10+i*1) [.ptr x]=mL c ck (wG p i x) q l:=by rcases S5 hi with rfl|rfl|rfl|rfl|rfl|rfl|rfl|rfl<;>rfl
def Sc(p:bO)(x:Option Sk):SP:=match x with
 |none=>bs (p=none) bg
 |some f=>ex λa:Nat=>bs (p=some ⟨a,0⟩) (mR a f)
instance(p:bO)(x:Option Sk):nl (Sc p x):=by unfold Sc;split<;>infer_instance
abbrev Y5(p:Nat→bO)(fl:Nat→Option Sk):Nat→SP:=λj=>Sc (p j) (fl j)
abbrev oE(p:Nat→bO)(fl:Nat→Option Sk):SP:=eD (Y5 p fl) 8
abbrev vk(p:Nat→bO)(fl:Nat→Option Sk)(i:Nat):SP:=eD (tU (Y5 p fl) i) 8
def gW(b:Nat)(v:Mc):SP:=ex λx:(Nat→bO)×Nat×Nat×Nat=>af b (mL v.c x.2.1 x.1 x.2.2.1 x.2.2.2)^af x.2.1 [aB v.aj]^qS x.2.2.1 v.q^vc x.2.2.2 v.l^oE x.1 v.so
instance(b:Nat)(v:Mc):nl (gW b v):=by unfold gW;infer_instance
section
variable {w0 w:World} {S0 R0:Nat→Prop} {F G:SP}
theorem _root_.Go.X.au.gW(h:au w0 S0 R0 w F)(b)[tk:ol yM.gW b F v G]:∃(p:Nat→bO) (ck q l:Nat),au w0 S0 R0 w (af b (mL v.c ck p q l)^af ck [aB v.aj]^qS q v.q^vc l v.l^oE p v.so^G):=by
 obtain⟨s,h⟩:=(h.le tk.le).lV;exact⟨s.1,s.2.1,s.2.2.1,s.2.2.2,h.aI⟩
theorem _root_.Go.X.au.l_(h:au w0 S0 R0 w F)(b p ck q l v)[tk:Take (af b (mL v.c ck p q l)^af ck [aB v.aj]^qS q v.q^vc l v.l^oE p v.so) F G]:au w0 S0 R0 w (yM.gW b v^G):=
 au.tQ (f:=λx:(Nat→bO)×Nat×Nat×Nat=>af b (mL v.c x.2.1 x.1 x.2.2.1 x.2.2.2)^af x.2.1 [aB v.aj]^qS x.2.2.1 v.q^vc x.2.2.2 v.l^oE x.1 v.so) (p,ck,q,l) (h.le tk.le)
theorem _root_.Go.X.au.NH(h:au w0 S0 R0 w F)(p:Nat→bO)(fl:Nat→Option Sk){i:Nat}(hi:i<8){f:Sk}(hf:fl i=some f)[tk:Take (oE p fl) F G]:∃a,p i=some ⟨a,0⟩∧au w0 S0 R0 w (mR a f^vk p fl i^G):=by
 have h:au w0 S0 R0 w ((Sc (p i) (fl i)^vk p fl i)^G):=(h.le tk.le).le (bi (oW _ hi) Le.rfl);have h:=h.le (bZ _ _ _);rw[hf]at h;obtain⟨a,h⟩:=au.lV (f:=λa:Nat=>bs (p i=some ⟨a,0⟩) (mR a f)) h;obtain⟨hp,h⟩:=h.aP;exact⟨a,hp,h⟩
theorem _root_.Go.X.au.Y4(h:au w0 S0 R0 w F)(p fl)(hi:i<8)(hf:fl i=none)[tk:Take (oE p fl) F G]:p i=none∧au w0 S0 R0 w (vk p fl i^G):=by
 have h:au w0 S0 R0 w ((Sc (p i) (fl i)^vk p fl i)^G):=(h.le tk.le).le (bi (oW _ hi) Le.rfl);have h:=h.le (bZ _ _ _);rw[hf]at h;obtain⟨hp,h⟩:=au.aP (p:=p i=none) (A:=bg) h;exact⟨hp,h.drop⟩
theorem Is(p q fl gl i)(hp:∀j,j≠i→q j=p j)(hf:∀j,j≠i→gl j=fl j):vk q gl i=vk p fl i:=im 8 λj _=>by
 unfold tU;split
 ·rfl
 ·rename_i e;show Sc _ _=Sc _ _;rw[hp j e,hf j e]
theorem _root_.Go.X.au.W9(h:au w0 S0 R0 w F)(p fl)(hi:i<8)(q gl a f)(hp:∀j,j≠i→q j=p j)(hf:∀j,j≠i→gl j=fl j)(hq:q i=some ⟨a,0⟩)(hg:gl i=some f)[tk:Take (mR a f^vk p fl i) F G]:au w0 S0 R0 w (oE q gl^G):=by
 have h:=(h.le tk.le).le (bZ _ _ _);have h:au w0 S0 R0 w (Sc (q i) (gl i)^vk p fl i^G):=by
  rw[hg];exact au.tQ (f:=λa:Nat=>bs (q i=some ⟨a,0⟩) (mR a f)) a (au.i_ hq h)
 rw[←Is p q fl gl i hp hf]at h;exact(h.le (dh _ _ _)).le (bi (rX (Y5 q gl) hi) Le.rfl)
theorem _root_.Go.X.au.aac(h:au w0 S0 R0 w F)(p fl)(hi:i<8)(q gl)(hp:∀j,j≠i→q j=p j)(hf:∀j,j≠i→gl j=fl j)(hq:q i=none)(hg:gl i=none)[tk:Take (vk p fl i) F G]:au w0 S0 R0 w (oE q gl^G):=by
 have h:=(h.le tk.le);have h:au w0 S0 R0 w (Sc (q i) (gl i)^vk p fl i^G):=by
  rw[hg];exact au.i_ (p:=q i=none) (A:=bg) hq (h.le ((aJ _).trans (be _ _)))
 rw[←Is p q fl gl i hp hf]at h;exact(h.le (dh _ _ _)).le (bi (rX (Y5 q gl) hi) Le.rfl)
theorem aaf(h:au w0 S0 R0 w F)(p fl)(hi:i<8)[tk:Take (oE p fl) F G]:(p i).isNone=(fl i).isNone:=by
 cases hf:fl i with
 |none=>rw[(h.Y4 p fl hi hf).1];rfl
 |some f=>obtain⟨a,ha,_⟩:=h.NH p fl hi hf;rw[ha];rfl
end
structure jS(k:Int)(v:Mc):Prop where
 c:yo v.c
 aj:0≤v.aj∧v.aj≤4611686018427387904
 q:jv v.q
 so:∀i x,v.so i=some x→mV.py k x∧x.id=(i:Int)∧i<8
 kr:0≤k∧k≤1000000
theorem jS.un{k:Int}(h:jS k v):U v.aj:=by have:=h.aj;unfold U;omega
theorem qj(b:Nat)(c:Cf)(p:Nat→bO)(ck q l:Nat)(aj:Int):bu (VE (some ⟨b,0⟩)) (af b (mL c ck p q l)^af ck [aB aj]) (λr=>bs (r=aj) (af b (mL c ck p q l)^af ck [aB aj])):=
 bC λw0 S R h=>by
  refine ae (λc=>(by simp at c)) λ_=>?_;refine ac (ah (x:=some ⟨ck,0⟩) h rfl (aK (RC ck aj) h λw h=>?_));exact au.aH rfl h.aI
theorem VZ(i:Int):bu (ZU i) bg (λr=>bs (r=decide (0≤i∧i<8)) bg):=
 bC λw0 S R h=>by
  refine au.aH ?_ h;rw[jG];simp
abbrev X_:fK.St:=(0,0,0,0,0,0,0,0,false,false)
end yM

namespace q_
open bH bp ff lL lN fe xH A9 yM
open eI (Sk cq cv eM io iO cZ bB)
theorem AB(so)(h:i<8):(b_ so)[i]?=some (qz (so i)):=by rcases S5 h with rfl|rfl|rfl|rfl|rfl|rfl|rfl|rfl<;>rfl
theorem DL{k:Int}(hv:jS k v):∀x∈b_ v.so,U x:=by
 have one:∀i,U (qz (v.so i)):=λi=>by
  unfold qz;split
  ·exact⟨by decide,by decide⟩
  ·rename_i x hx;exact(hv.so i x hx).1.i.ok.md.ba
 intro x hx;obtain⟨i,hi⟩:=qv.1 hx;have hi8:i<8:=by have:=(iy.1 hi).1;exact this
 rw[AB v.so hi8]at hi;cases hi;exact one i
abbrev KP8:Ks:=[.ptr,.ptr,.ptr,.ptr,.ptr,.ptr,.ptr,.ptr]
abbrev p8(p:Nat→bO):Ks.T KP8:=(p 0,p 1,p 2,p 3,p 4,p 5,p 6,p 7)
theorem Yd(p)(h:i<8):Ks.mk [.ptr] (p i)=((Ks.mk KP8 (p8 p)).drop (i*1)).take 1:=by rcases S5 h with rfl|rfl|rfl|rfl|rfl|rfl|rfl|rfl<;>rfl
theorem xv(b)(k:Int)(v)(hv:jS k v)(p ck q l):bu (XN (some ⟨b,0⟩)) (af b (mL v.c ck p q l)^oE p v.so) (λr=>aS r KU (b_ v.so)^af b (mL v.c ck p q l)^oE p v.so):=
 bC λw0 S R h=>by
  refine ac (ah (x:=p8 p) h rfl ?_);have h:=h.nil KU;have h:au w0 S R w0 (aS ⟨none,0,0⟩ KU ((b_ v.so).take 0)^af b (mL v.c ck p q l)^oE p v.so):=h;refine fY (λ(y:Sl×Int) (_:Unit)=>aS y.1 KU ((b_ v.so).take y.2.toNat)^af b (mL v.c ck p q l)^oE p v.so) (λ(y:Sl×Int) _=>0≤y.2∧y.2≤8) (λ(y:Sl×Int) _=>(8-y.2).toNat) () h ⟨by decide,by decide⟩ ?_;rintro K (y:Sl×Int) _ w ⟨h0,h1⟩ h k;obtain⟨s,i⟩:=y;dsimp only at h0 h1 h⊢;refine ae (λc=>?_) λc=>?_
  ·have c:i<8:=bV c;have hi8:i.toNat<8:=(by omega);have hwi:i64.wrap (i+1)=i+1:=gi;have hin:(i+1).toNat=i.toNat+1:=(by omega);refine⟨⟨h0,c⟩,p i.toNat,Yd p hi8,?_⟩;rw[hwi];have hlen:((b_ v.so).take i.toNat).length=i.toNat:=(by rw[fO];show min i.toNat 8=_;omega);refine aQ h (λ_=>aS s KU ((b_ v.so).take i.toNat)^af b (mL v.c ck p q l)^oE p v.so) (λr:Int=>r=qz (v.so i.toNat)) (λ(r:Int) w hr h=>?_) ?_
   ·refine aD h λn9 w h=>?_;have h:=h.co n9 KU [r] rfl (by simp);have h:au w0 S R w (aS ⟨some ⟨n9,0⟩,1,1⟩ KU [r]^_):=h;refine dF (K:=KU) (s:=s) (xs:=(b_ v.so).take i.toNat) h rfl (by rw[hlen];simp only[mc];omega) λs' w _ h=>?_;have e:(b_ v.so).take i.toNat++[r]=(b_ v.so).take (i+1).toNat:=by rw[hin,lC,AB v.so hi8,hr];rfl
    rw[e]at h;exact k (s',i+1) () w ⟨by show 0≤i+1;omega,by show i+1≤8;omega⟩ h.aI (by show(8-(i+1)).toNat<(8-i).toNat;omega)
   ·cases hs:v.so i.toNat with
    |none=>
     obtain⟨hp,_⟩:=h.Y4 p v.so hi8 hs;rw[hp];refine ae (λc=>(by simp at c)) λ_=>?_;exact⟨rfl,h⟩
    |some x=>
     obtain⟨a,hp,h⟩:=h.NH p v.so hi8 hs;rw[hp];refine ae (λ_=>?_) λc=>(by simp at c);refine aK (fe.Kz a x) h λw h=>?_;have h:=h.W9 p v.so hi8 p v.so a x (λ_ _=>rfl) (λ_ _=>rfl) hp hs;exact⟨rfl,h.aI⟩
  ·have c:¬i<8:=bY c;have e:(b_ v.so).take i.toNat=b_ v.so:=jZ (by show 8≤i.toNat;omega);rw[e]at h;exact h
abbrev KI:Ks:=[.int .i64]
def fJ(a:Nat)(o:Ou):SP:=ex λs:Sl×Sl×Sl=>af a [aY s.1,aY s.2.1,aY s.2.2,aB o.wd]^aS s.1 KS o.oo^aS s.2.1 KS o.dr^aS s.2.2 KI o.ft
instance(a:Nat)(o:Ou):nl (fJ a o):=by unfold fJ;infer_instance
section
variable {w0 w:World} {S0 R0:Nat→Prop} {F G:SP}
theorem _root_.Go.X.au.fJ(h:au w0 S0 R0 w F)(b)[tk:ol q_.fJ b F v G]:∃(s1 s2 s3:Sl),au w0 S0 R0 w (af b [aY s1,aY s2,aY s3,aB v.wd]^aS s1 KS v.oo^aS s2 KS v.dr^aS s3 KI v.ft^G):=by
 obtain⟨s,h⟩:=(h.le tk.le).lV;exact⟨s.1,s.2.1,s.2.2,h.aI⟩
theorem _root_.Go.X.au.xc(h:au w0 S0 R0 w F)(b s1 s2 s3 v)[tk:Take (af b [aY s1,aY s2,aY s3,aB v.wd]^aS s1 KS v.oo^aS s2 KS v.dr^aS s3 KI v.ft) F G]:au w0 S0 R0 w (q_.fJ b v^G):=
 au.tQ (f:=λs:Sl×Sl×Sl=>af b [aY s.1,aY s.2.1,aY s.2.2,aB v.wd]^aS s.1 KS v.oo^aS s.2.1 KS v.dr^aS s.2.2 KI v.ft) (s1,s2,s3) (h.le tk.le)
end
def NP(m o:Nat)(n6:Nat)(is:Bool)(R:WP):WP:=
 aq is (
 bR<|
 aC (some ⟨m,0⟩) λq7=>
 ld [.int .i64] ⟨n6,0⟩ λ(x8:Int)=>
 ld [.ptr] ⟨q7.b,q7.o+19⟩ λ(x9:bO)=>
 call Tryz.prog rP [.lf (.ptr x9),.lf (.int .i64 x8),.lf (.int .i64 (1:Int))] [.lf (.int .i64)] λ(r10:Int)=>
 ld KS ⟨n6,0⟩ λ(x11:Sg)=>
 new [aE x11.1,aB x11.2.1,aE x11.2.2.1,aB x11.2.2.2.1,bc x11.2.2.2.2] λn12=>
 aC (some ⟨o,0⟩) λq13=>
 st q13 [aY ⟨some ⟨n12,0⟩,1,1⟩]<|
 R)<|
 aC (some ⟨m,0⟩) λq14=>
 ld [.ptr] ⟨q14.b,q14.o+18⟩ λ(x15:bO)=>
 call Tryz.prog tM [.lf (.ptr x15)] [.lf (.int .u64),.lf .bool] λ(r16:Int×Bool)=>
 aq r16.2 (
 aC (some ⟨o,0⟩) λq17=>
 st ⟨q17.b,q17.o+3⟩ [aB (if(1:Int)>r16.1 then(1:Int)else r16.1)]<|
 R)<|
 R
theorem Sr{w0 w:World}{S0 R0:Nat→Prop}{G:SP}{R:WP}{b a n6 ck q l:Nat}{p:Nat→bO}{v:Mc}{o:Ou}
  (h:au w0 S0 R0 w (af n6 (Ks.mk KS (xI.Bu (jW v.q v.aj (b_ v.so)).1).1)^(af b (mL ({v with q:=(jW v.q v.aj (b_ v.so)).2}).c ck p q l)^af ck [aB ({v with q:=(jW v.q v.aj (b_ v.so)).2}).aj]^qS q ({v with q:=(jW v.q v.aj (b_ v.so)).2}).q^vc l ({v with q:=(jW v.q v.aj (b_ v.so)).2}).l^oE p ({v with q:=(jW v.q v.aj (b_ v.so)).2}).so)^fJ a o^G))
  (k:∀w',au w0 S0 R0 w' (gW b (fN v o).2^fJ a (fN v o).1^G)→R w'):NP b a n6 (xI.Bu (jW v.q v.aj (b_ v.so)).1).2 R w:=by
 unfold NP;cases hd:jW v.q v.aj (b_ v.so)with
 |mk x q'=>
 rw[hd]at h;dsimp only at h⊢;cases x with
 |some s=>
  have e:fN v o=({o with oo:=[s]},{v with q:=q',l:=(gx v.l (sK s) 1).2}):=by unfold fN;rw[hd]
  rw[e]at k;refine ae (λ_=>?_) λc=>(by cases c);refine aM h λw h=>ac (ah (x:=sK s) h rfl (ah (x:=some ⟨l,0⟩) h rfl (ar (zQ l v.l (sK s) 1) h λr w h=>?_)));obtain⟨_,h⟩:=h.aP;refine aw (b:=n6) (x:=s) h rfl (aD h λn12 w h=>?_);have h:=h.co n12 KS [s] rfl (by simp);have h:au w0 S0 R0 w (aS ⟨some ⟨n12,0⟩,1,1⟩ KS [s]^_):=h;obtain⟨s1,s2,s3,h⟩:=h.fJ a;refine ac (aA h a [aY ⟨some ⟨n12,0⟩,1,1⟩,aY s2,aY s3,aB o.wd] rfl rfl rfl λw h=>?_);have h:=h.xc a ⟨some ⟨n12,0⟩,1,1⟩ s2 s3 {o with oo:=[s]};have h:=h.l_ b p ck q l {v with q:=q',l:=(gx v.l (sK s) 1).2};exact k w h.aI
 |none=>
  refine ae (λc=>(by cases c)) λ_=>?_;refine ac (ah (x:=some ⟨q,0⟩) h rfl (aK (Cu.C_ q q') h λw h=>?_));dsimp only;refine ae (λc=>?_) λc=>?_
  ·have e:fN v o=({o with wd:=if 1>(nW q'.ks).1.1 then 1 else(nW q'.ks).1.1},{v with q:=q'}):=(by unfold fN;rw[hd];dsimp only;rw[if_pos c]);rw[e]at k;obtain⟨s1,s2,s3,h⟩:=h.fJ a;refine ac (aA h a [aY s1,aY s2,aY s3,aB (if(1:Int)>(nW q'.ks).1.1 then(1:Int)else(nW q'.ks).1.1)] rfl rfl rfl λw h=>?_);have h:=h.xc a s1 s2 s3 {o with wd:=if 1>(nW q'.ks).1.1 then 1 else(nW q'.ks).1.1};have h:=h.l_ b p ck q l {v with q:=q'};exact k w h.aI
  ·have e:fN v o=(o,{v with q:=q'}):=(by unfold fN;rw[hd];dsimp only;rw[if_neg (by rw[c];simp)]);rw[e]at k;have h:=h.l_ b p ck q l {v with q:=q'};exact k w h.aI
theorem nr(h:A w)(k:B w):both A B w:=⟨h,k⟩
theorem NQ(b a)(k:Int)(v)(hv:jS k v)(o):bu (ZJ (some ⟨b,0⟩) (some ⟨a,0⟩)) (gW b v^fJ a o) (λ_=>gW b (fN v o).2^fJ a (fN v o).1):=
 bC λw0 S R h=>by
  obtain⟨p,ck,q,l,h⟩:=(h.le (aJ _)).gW b;have hU:=DL hv;have zS:List Lf:=[aE 0,aB 0,aE 0,aB 0,bc false];have aI:∀{w:World} {n6:Nat},au w0 S R w (af n6 (Ks.mk KS (xI.Bu (jW v.q v.aj (b_ v.so)).1).1)^(af b (mL ({v with q:=(jW v.q v.aj (b_ v.so)).2}).c ck p q l)^af ck [aB ({v with q:=(jW v.q v.aj (b_ v.so)).2}).aj]^qS q ({v with q:=(jW v.q v.aj (b_ v.so)).2}).q^vc l ({v with q:=(jW v.q v.aj (b_ v.so)).2}).l^oE p ({v with q:=(jW v.q v.aj (b_ v.so)).2}).so)^fJ a o^bg)→NP b a n6 (xI.Bu (jW v.q v.aj (b_ v.so)).1).2 (λw=>au w0 S R w (gW b (fN v o).2^fJ a (fN v o).1)) w:=λ{w n6} h=>Sr h λw' h=>h.aI;refine aM h λw h=>ac (ah (x:=some ⟨q,0⟩) h rfl (nr ?_ ?_))
  ·refine aK (qj b v.c p ck q l v.aj) h λw h=>?_;refine aN h rfl (nr ?_ ?_)
   ·refine ar (xv b k v hv p ck q l) h λr w h=>?_;refine aN h rfl (nr ?_ ?_)
    ·refine bP (A:=qS q v.q) (Q:=aV r KU (b_ v.so)) (xI.yq q v.q hv.q v.aj hv.un r (b_ v.so) hU) h λr w h=>?_;obtain⟨hr,h⟩:=h.aP;rw[hr];refine aD h λn6 w h=>aN h rfl (az h (by rfl) λw h=>?_);exact aI h.aI
    ·refine aD h λn6 w h=>aN h rfl ?_;refine bP (A:=qS q v.q) (Q:=aV r KU (b_ v.so)) (xI.yq q v.q hv.q v.aj hv.un r (b_ v.so) hU) h λr w h=>?_;obtain⟨hr,h⟩:=h.aP;rw[hr];refine az h (by rfl) λw h=>?_;exact aI h.aI
   ·refine aD h λn6 w h=>aN h rfl ?_;refine ar (xv b k v hv p ck q l) h λr w h=>?_;refine aN h rfl ?_;refine bP (A:=qS q v.q) (Q:=aV r KU (b_ v.so)) (xI.yq q v.q hv.q v.aj hv.un r (b_ v.so) hU) h λr w h=>?_;obtain⟨hr,h⟩:=h.aP;rw[hr];refine az h (by rfl) λw h=>?_;exact aI h.aI
  ·refine aD h λn6 w h=>aN h rfl ?_;refine aK (qj b v.c p ck q l v.aj) h λw h=>?_;refine aN h rfl ?_;refine ar (xv b k v hv p ck q l) h λr w h=>?_;refine aN h rfl ?_;refine bP (A:=qS q v.q) (Q:=aV r KU (b_ v.so)) (xI.yq q v.q hv.q v.aj hv.un r (b_ v.so) hU) h λr w h=>?_;obtain⟨hr,h⟩:=h.aP;rw[hr];refine az h (by rfl) λw h=>?_;exact aI h.aI
end q_

namespace Cs
open bH bp ff lL lN fe xH A9 yM q_
open eI (Sk cq cv eM io iO cZ bB dV)
open yP (JG gN gF gS gA BP)
open oS (nj qn zI)
open mV (py)
theorem oq(b a c p ck q l L o s)(f:Int)(hl:o.dr.length≤1000∧o.ft.length≤1000):bu (P6 (some ⟨b,0⟩) (some ⟨a,0⟩) s f)
  (af b (mL c ck p q l)^vc l L^fJ a o) (λ_=>af b (mL c ck p q l)^vc l (cy L o s f).2^fJ a (cy L o s f).1):=
 bC λw0 S R h=>by
  refine aD (h.le (aJ _)) λn1 w h=>aM h λw h=>ac (ah (x:=sK s) h rfl (ah (x:=some ⟨l,0⟩) h rfl (ar (zQ l L (sK s) f) h λr w h=>?_)));obtain⟨_,h⟩:=h.aP;obtain⟨s1,s2,s3,h⟩:=h.fJ a;have hl2:o.dr.length+[s].length≤4294967296:=by have:=hl.1;simp only[mc];omega
  have hl3:o.ft.length+[f].length≤4294967296:=by have:=hl.2;simp only[mc];omega
  have aI:∀{w:World} {t2 t3:Sl},au w0 S R w (aS t3 KI (o.ft++[f])^aS t2 KS (o.dr++[s])^af a [aY s1,aY s2,aY s3,aB o.wd]^aS s1 KS o.oo^af b (mL c ck p q l)^vc l (gx L (sK s) f).2^bg)→
    (aC (some ⟨a,0⟩) λq15=>st ⟨q15.b,q15.o+1⟩ [aY t2]<|aC (some ⟨a,0⟩) λq16=>st ⟨q16.b,q16.o+2⟩ [aY t3]<|λw=>au w0 S R w (af b (mL c ck p q l)^vc l (cy L o s f).2^fJ a (cy L o s f).1)) w:=by
   intro w t2 t3 h;refine ac (aA h a [aY s1,aY t2,aY s3,aB o.wd] rfl rfl rfl λw h=>?_);refine ac (aA h a [aY s1,aY t2,aY t3,aB o.wd] rfl rfl rfl λw h=>?_);have h:=h.xc a s1 t2 t3 {o with dr:=o.dr++[s],ft:=o.ft++[f]};exact h.aI (A:=af b (mL c ck p q l)^vc l (gx L (sK s) f).2^fJ a {o with dr:=o.dr++[s],ft:=o.ft++[f]})
  refine aM h λw h=>aw (b:=n1) (x:=s) h rfl (ac (ac (ah (x:=s2) h rfl (ah (x:=s3) h rfl (nr ?_ ?_)))))
  ·refine aD h λn11 w h=>aN h rfl (aN h rfl (nr ?_ ?_))
   ·have h:=h.co n11 KS [s] rfl (by simp);have h:au w0 S R w (aS ⟨some ⟨n11,0⟩,1,1⟩ KS [s]^_):=h;refine dF (K:=KS) (s:=s2) (xs:=o.dr) h rfl hl2 λt2 w _ h=>?_;refine aN h rfl (aD h λn13 w h=>aN h rfl (aN h rfl (aO (b:=n1) h ?_)));have h:=h.co n13 KI [f] rfl (by simp);have h:au w0 S R w (aS ⟨some ⟨n13,0⟩,1,1⟩ KI [f]^_):=h;refine dF (K:=KI) (s:=s3) (xs:=o.ft) h rfl hl3 λt3 w _ h=>?_;exact aI h.aI
   ·refine aD h λn17 w h=>aN h rfl (aN h rfl (aO (b:=n1) h ?_));have h:=h.co n11 KS [s] rfl (by simp);have h:au w0 S R w (aS ⟨some ⟨n11,0⟩,1,1⟩ KS [s]^_):=h;refine dF (K:=KS) (s:=s2) (xs:=o.dr) h rfl hl2 λt2 w _ h=>?_;refine aN h rfl ?_;have h:=h.co n17 KI [f] rfl (by simp);have h:au w0 S R w (aS ⟨some ⟨n17,0⟩,1,1⟩ KI [f]^_):=h;refine dF (K:=KI) (s:=s3) (xs:=o.ft) h rfl hl3 λt3 w _ h=>?_;exact aI h.aI
  ·refine aD h λn22 w h=>aN h rfl (aN h rfl (aO (b:=n1) h (aD h λn23 w h=>aN h rfl (aN h rfl ?_))));have h:=h.co n23 KS [s] rfl (by simp);have h:au w0 S R w (aS ⟨some ⟨n23,0⟩,1,1⟩ KS [s]^_):=h;refine dF (K:=KS) (s:=s2) (xs:=o.dr) h rfl hl2 λt2 w _ h=>?_;refine aN h rfl ?_;have h:=h.co n22 KI [f] rfl (by simp);have h:au w0 S R w (aS ⟨some ⟨n22,0⟩,1,1⟩ KI [f]^_):=h;refine dF (K:=KI) (s:=s3) (xs:=o.ft) h rfl hl3 λt3 w _ h=>?_;exact aI h.aI
theorem WR{k:Int}{aj:Int}(hv:nj k v)(hv':nj k v')(hw:JG v aj g v'):0≤gF g∧gF g+gN g≤4611686018427387904:=by
 have b1:=hv'.ok.bf.nw;have b2:=hv'.ok.bf.w;have b3:=hv.ok.bf.u;have b4:=hv.ok.bf.un;cases hx:gA g with
 |false=>
  obtain⟨n1,n2,_⟩:=hw.new hx;have:eY.bN v'.bf=eY.bN v.bf+gN g:=by rw[n2]
  rw[n1];omega
 |true=>
  obtain⟨_,n2,_⟩:=hw.ND hx;obtain⟨z,hz,ez⟩:=zI (l:=v.bd.1) (by rw[n2]);have hzo:=hv.pc z hz;rw[n2]at ez;have e1:gF g=fb.iX z:=c_ Prod.fst ez;have e2:gF g+gN g=fb.xU z:=c_ Prod.snd ez;have:=hzo.f;have:=hzo.t;omega
theorem Iu{α:Type}{f:α→Bool}:∀{l:List α} {i:Nat} {p q:α},l[i]?=some p→f p=true→f q=false→(l.set i q).countP f+1=l.countP f
 |[],_,_,_,h,_,_=>by cases h
 |a::l,0,p,q,h,hp,hq=>by
  cases h;rw[List.set_cons_zero,Oa (by rw[hq];simp),List.countP_cons_of_pos hp]
 |a::l,i+1,p,q,h,hp,hq=>by
  have:=Iu (l:=l) (i:=i) (p:=p) (q:=q) Y6 hp hq;rw[List.set_cons_succ,List.countP_cons,List.countP_cons];omega
theorem GL{k:Int}{aj:Int}(hv:nj k v)(hv':nj k v')(hw:JG v aj g v'):fresh v'<fresh v:=by
 have b1:=hv'.ok.bf.nw;have hn:=hw.n;have e0:fresh v'=(eY.bW v'.bf-eY.bN v'.bf).toNat+v'.bd.1.countP (λp=>fb.jO p):=rfl;have e1:fresh v=(eY.bW v.bf-eY.bN v.bf).toNat+v.bd.1.countP (λp=>fb.jO p):=rfl;rw[e0,e1];cases hx:gA g with
 |false=>
  obtain⟨_,n2,_,_,n5⟩:=hw.new hx;have f1:eY.bN v'.bf=eY.bN v.bf+gN g:=by rw[n2]
  have f2:eY.bW v'.bf=eY.bW v.bf:=by rw[n2]
  have f3:v'.bd.1.countP (λp=>fb.jO p)=v.bd.1.countP (λp=>fb.jO p):=by
   rw[n5];show(v.bd.1++[_]).countP _=_;rw[List.countP_append,Oa (by show ¬(false=true);simp)];rfl
  rw[f3];omega
 |true=>
  obtain⟨n1,n2,n3⟩:=hw.ND hx;obtain⟨i,pp,hp,hlo,_,e2⟩:=yP.IW (l:=v.bd.1) (by rw[n2]);have f3:v'.bd.1.countP (λp=>fb.jO p)+1=v.bd.1.countP (λp=>fb.jO p):=by
   rw[n3];show(fb.dN v.bd.1 _).countP _+1=_;rw[e2];exact Iu hp hlo rfl
  rw[n1];omega
theorem GK(v)(n:Int):fresh (cv v n).2=fresh v:=by unfold cv;split<;>rfl
theorem sq{k:Int}{v:Sk}(h:py k v){aj:Int}(hn:U aj):py k (cq v aj).2:=
 {i:=h.i.emit hn,kr:=h.kr,g:=(mV.ME v aj).1.trans h.g,b:=by rw[(mV.ME v aj).2];exact h.b}
theorem M0{k:Int}(h:py k v)(n:Int):py k (cv v n).2:=
 {i:=h.i.done n,kr:=h.kr,g:=by rw[show(cv v n).2.sp=v.sp by unfold cv;split<;>rfl];exact h.g,b:=by rw[show(cv v n).2.md=v.md by unfold cv;split<;>rfl];exact h.b}
structure Bh(k i:Int)(s:Pm):Prop where
 v:py k s.v
 id:s.v.id=i
 q:jv s.q
theorem CP(v)(aj:Int):(cq v aj).2.id=v.id:=by
 unfold cq;split
 ·exact(yP.E_ v).id
 ·show(eI.vb v aj).2.id=v.id;unfold eI.vb;split<;>rfl
theorem Q0(v)(n:Int):(cv v n).2.id=v.id:=by unfold cv;split<;>rfl
theorem yK{k:Int}(h:py k v){aj:Int}(hn:U aj)(he:(cq v aj).1.2=0):JG v aj (cq v aj).1.1 (cq v aj).2:=BP h.i hn he
theorem Ea{k:Int}(h:py k v){aj:Int}(hn:U aj)(he:(cq v aj).1.2=0):U (R5 (cq v aj).1.1)∧U (ve (cq v aj).1.1):=by
 have hw:=yK h hn he;have hr:=WR h.i (h.i.emit hn) hw;have h1:=hw.n;refine⟨⟨hr.1,by show gF _<_;omega⟩,?_⟩;show U (gS _);rw[hw.st];exact oS.SL h.i.ok.nx hn
theorem zk{k i aj:Int}(h:Bh k i s)(hn:U aj)(he:(cq s.v aj).1.2=0):Bh k i (enter i aj s).1∧fresh (enter i aj s).1.v<fresh s.v:=by
 have hs:=Ea h.v hn he;have hf:=GL h.v.i (h.v.i.emit hn) (yK h.v hn he);unfold enter;dsimp only;split
 ·exact⟨⟨sq h.v hn,(CP _ _).trans h.id,h.q.enq hs hn⟩,hf⟩
 ·exact⟨⟨M0 (sq h.v hn) _,(Q0 _ _).trans ((CP _ _).trans h.id),h.q.enq hs hn⟩,by rw[GK];exact hf⟩
theorem Fs{k i aj:Int}(hn:U aj):∀(n:Nat) (s:Pm),Bh k i s→Bh k i (na i aj n s)
 |0,_,h=>h
 |n+1,s,h=>by
  unfold na;by_cases he:(cq s.v aj).1.2=0
  ·rw[ay (λc=>c he)];have h2:=(zk h hn he).1;split
   ·exact Fs hn n _ h2
   ·exact h2
  ·rw[aG he];exact⟨sq h.v hn,(CP _ _).trans h.id,h.q⟩
theorem NS(b a)(k:Int)(v)(hv:jS k v)(i x)(hx:v.so i=some x)(o)(hl:o.dr.length≤999∧o.ft.length≤999):bu (ZY (some ⟨b,0⟩) (i:Int) (some ⟨a,0⟩)) (gW b v^fJ a o) (λ_=>gW b (mC v i x o).2^fJ a (mC v i x o).1):=
 bC λw0 S R h=>by
  obtain⟨hxi,hid,hi⟩:=hv.so i x hx;have hn:=hv.un;obtain⟨p,ck,q,l,h⟩:=(h.le (aJ _)).gW b;obtain⟨ap,hp,h⟩:=h.NH p v.so hi hx;have s0:Bh k i ⟨x,v.q,v.l,o⟩:=⟨hxi,hid,hv.q⟩;have eit:((i:Nat):Int).toNat=i:=eX i;have hat:Ks.un [.ptr] (((mL v.c ck p q l).drop (0+10+((i:Nat):Int).toNat*1)).take 1)=some (some ⟨ap,0⟩):=by rw[eit,S6 v.c ck p q l i hi,hp]
  refine ac ⟨by omega,ah h hat ?_⟩;have aI:∀{w:World} (s:Pm),s=pj i v.aj ⟨x,v.q,v.l,o⟩→au w0 S R w (af b (mL v.c ck p q l)^af ck [aB v.aj]^qS q s.q^vc l s.l^mR ap s.v^vk p v.so i^fJ a s.o^bg)→au w0 S R w (gW b (mC v i x o).2^fJ a (mC v i x o).1):=by
   intro w s hs h;have h:=h.W9 p v.so hi p (gZ v.so i (some s.v)) ap s.v (λ_ _=>rfl) (λj hj=>ki v.so _ hj) hp (fu v.so i _);have h:=h.l_ b p ck q l {v with so:=gZ v.so i (some s.v),q:=s.q,l:=s.l};rw[show mC v i x o=(s.o,{v with so:=gZ v.so i (some s.v),q:=s.q,l:=s.l}) by unfold mC;rw[←hs]];exact h.aI
  have h:au w0 S R w0 (af b (mL v.c ck p q l)^af ck [aB v.aj]^qS q v.q^vc l v.l^mR ap x^vk p v.so i^fJ a o^bg):=h.aI;refine fY (λ(_:Unit) (s:Pm)=>af b (mL v.c ck p q l)^af ck [aB v.aj]^qS q s.q^vc l s.l^mR ap s.v^vk p v.so i^fJ a s.o^bg) (λ_ s=>Bh k i s∧s.o=o∧∃n,fresh s.v<n∧na i v.aj n s=pj i v.aj ⟨x,v.q,v.l,o⟩) (λ_ s=>fresh s.v) ⟨x,v.q,v.l,o⟩ h ⟨s0,rfl,_,An _,rfl⟩ ?_;rintro K (y:Unit) s w ⟨hs,hso,n,hfn,hN⟩ h next
  cases n with
  |zero=>omega
  |succ n=>
  unfold na at hN;refine aK (qj b v.c p ck q l v.aj) h λw h=>?_;refine aK (oP.MF ap s.v hs.v.i.ok (qn hs.v.i.pc) v.aj hn) h λw h=>?_;refine aD h λn7 w h=>az h (by rfl) λw h=>ae (λce=>?_) λce=>?_
  ·have ce:(cq s.v v.aj).1.2≠0:=(by simpa using ce);rw[aG ce]at hN;exact aI {s with v:=(cq s.v v.aj).2} hN h.aI
  ·have ce:(cq s.v v.aj).1.2=0:=(by simpa using ce);rw[ay (λc=>c ce)]at hN;obtain⟨hok,hless⟩:=zk hs hn ce;have hw:=yK hs.v hn ce;have hgs:=Ea hs.v hn ce;have hgn:=hw.n;obtain⟨g,hg⟩:∃g,g=(cq s.v v.aj).1.1:=⟨_,rfl⟩;obtain⟨v',hv'⟩:∃v',v'=(cq s.v v.aj).2:=⟨_,rfl⟩;have hiv:=sq hs.v hn;have een:enter i v.aj s=if(fG s.q g v.aj).1.1=0 then(⟨v',(fG s.q g v.aj).2,(gx s.l i 0).2,s.o⟩,0)
    else(⟨(cv v' g.2.2.1).2,(fG s.q g v.aj).2,(cy (gx s.l i 0).2 s.o g (fG s.q g v.aj).1.1).2,(cy (gx s.l i 0).2 s.o g (fG s.q g v.aj).1.1).1⟩,1):=by
    rw[hg,hv'];rfl
   rw[←hg]at hw hgs hgn;rw[←hv']at hiv hw;rw[←hg,←hv']at h;refine ac (ah (x:=some ⟨l,0⟩) h rfl (ar (zQ l s.l i 0) h λr w h=>?_));obtain⟨_,h⟩:=h.aP;refine aM h λw h=>aw (b:=n7) (x:=g) h rfl (ac (ah (x:=some ⟨q,0⟩) h rfl (aK (qj b v.c p ck q l v.aj) h λw h=>?_)));refine aN h rfl (aO (b:=n7) h (aK (Ej.Q5 q s.q hs.q g v.aj hgs hn) h λw h=>?_));refine ae (λcf=>?_) λcf=>?_
   ·have cf:(fG s.q g v.aj).1.1=0:=(by simpa using cf);rw[aG cf]at een;rw[een]at hN hok hless;rw[aG rfl]at hN;have hless:fresh v'<fresh s.v:=hless;exact next () ⟨v',(fG s.q g v.aj).2,(gx s.l i 0).2,s.o⟩ w ⟨hok,hso,n,by show fresh v'<n;omega,hN⟩ h.aI hless
   ·have cf:¬(fG s.q g v.aj).1.1=0:=(by simpa using cf);rw[ay cf]at een;rw[een]at hN hok hless;rw[ay (by show ¬(1:Int)=0;decide)]at hN;refine aw (b:=n7) (x:=g) h rfl ?_;refine ar (oq b a v.c p ck q l (gx s.l i 0).2 s.o g (fG s.q g v.aj).1.1 (by rw[hso];omega)) h λ_ w h=>?_;refine ah (x:=g.2.2.1) h rfl (ar (fe.EJ ap v' hiv.i.ok.out g.2.2.1 (by show gN g<_;omega)) h λr w h=>?_);obtain⟨_,h⟩:=h.aP;exact aI _ hN h.aI
end Cs

namespace BE
open bH bp ff lL lN fe xH A9 yM q_ Cs
open eI (Sk cq cv eM io iO cZ bB dV)
open oS (nj)
open mV (py)
theorem jD(c):bu (Zy c) bg (λr=>ex λb:Nat=>bs (r=if may c then(some ⟨b,0⟩,0)else(none,13)) (if may c then gW b (dH c)else bg)):=
 bC λw0 S R h=>by
  refine aD (h.le (aJ _)) λn1 w h=>aw (b:=n1) (x:=c) h rfl (ar (Cu.jD c) h λr w h=>?_);obtain⟨q,h⟩:=h.lV;obtain⟨hr,h⟩:=h.aP;by_cases hm:may c=true
  ·rw[aG hm]at hr h;rw[hr];refine ae (λcc=>(by cases cc)) λ_=>?_;refine aM h λw h=>aw (b:=n1) (x:=c) h rfl (ar zb (h.le ((aJ _).trans (be _ _))) λr w h=>?_);obtain⟨ck,h⟩:=h.lV;obtain⟨hr,h⟩:=h.aP;rw[hr];refine aO (b:=n1) h (ar zH (h.le ((aJ _).trans (be _ _))) λr w h=>?_);obtain⟨l,h⟩:=h.lV;obtain⟨hr,h⟩:=h.aP;rw[hr];refine aO (b:=n1) h (aD h λn7 w h=>?_);have h:au w0 S R w (af n7 (mL c ck (λ_=>none) q l)^_):=h;have e:oE (λ_=>none) (λ_=>none)=eD (λ_=>bs ((none:bO)=none) bg) 8:=rfl;have hall:∀n,Le bg (eD (λ_=>bs ((none:bO)=none) bg) n):=λn=>by
    induction n with
    |zero=>exact Le.rfl
    |succ n ih=>exact(aJ bg).trans (bi (λ_ _ _ h=>⟨rfl,h⟩) ih)
   have h:au w0 S R w (oE (λ_=>none) (λ_=>none)^_):=(h.le ((aJ _).trans (be _ _))).le (bi (by rw[e];exact hall 8) Le.rfl);have h:=h.l_ n7 (λ_=>none) ck q l (dH c);refine au.ie n7 (au.aH (by rw[aG hm]) ?_);rw[aG hm];exact h.br
  ·rw[ay hm]at hr h;rw[hr];refine ae (λ_=>?_) λcc=>(by cases cc);refine au.ie 0 (au.aH (by rw[ay hm]) ?_);rw[ay hm];exact h.gm
theorem mS(b v c):bu (ZK (some ⟨b,0⟩) c) (gW b v) (λr=>bs (r=(rH v c).1) (gW b (rH v c).2)):=
 bC λw0 S R h=>by
  refine aD (h.le (aJ _)) λn1 w h=>?_;obtain⟨p,ck,q,l,h⟩:=h.gW b;refine aM h λw h=>aw (b:=n1) (x:=c) h rfl (ac (ah (x:=some ⟨q,0⟩) h rfl (aK (Cu.mS q v.q c) h λw h=>?_)));refine ae (λcc=>?_) λcc=>?_
  ·have cc:(qX v.q c).1=0:=(by simpa using cc);refine aw (b:=n1) (x:=c) h rfl (ac (aA h b (mL c ck p q l) rfl rfl rfl λw h=>?_));rw[show rH v c=(0,{v with q:=(qX v.q c).2,c:=c}) by unfold rH;rw[aG cc]];exact au.aH cc (h.l_ b p ck q l {v with q:=(qX v.q c).2,c:=c}).aI
  ·have cc:¬(qX v.q c).1=0:=(by simpa using cc);rw[show rH v c=((qX v.q c).1,{v with q:=(qX v.q c).2}) by unfold rH;rw[ay cc]];exact au.aH rfl (h.l_ b p ck q l {v with q:=(qX v.q c).2}).aI
theorem BO(l o a s):dj l o (a++[s])=cy (dj l o a).2 (dj l o a).1 s 5:=by
 induction a generalizing l o with
 |nil=>rfl
 |cons x a ih=>exact ih _ _
theorem wY(l o a):(dj l o a).1.dr.length=o.dr.length+a.length∧(dj l o a).1.ft.length=o.ft.length+a.length:=by
 induction a generalizing l o with
 |nil=>exact⟨rfl,rfl⟩
 |cons x a ih=>
  obtain⟨h1,h2⟩:=ih (cy l o x 5).2 (cy l o x 5).1;have e1:(cy l o x 5).1.dr.length=o.dr.length+1:=by show(o.dr++[x]).length=_;simp
  have e2:(cy l o x 5).1.ft.length=o.ft.length+1:=by show(o.ft++[5]).length=_;simp
  rw[gg];show(dj (cy l o x 5).2 (cy l o x 5).1 a).1.dr.length=_∧(dj (cy l o x 5).2 (cy l o x 5).1 a).1.ft.length=_;omega
theorem wT(hv:jv v)(i:Int):(cO v i).1.length≤512:=by
 unfold cO;split
 ·show([]:List Sg).length≤512;decide
 ·split
  ·show([]:List Sg).length≤512;decide
  ·rename_i f hf;exact(hv.len hf).2
theorem OZ(b a:Nat)(k:Int)(v:Mc)(hv:jS k v)(i:Nat)(hi:i<8)(o:Ou)(hl:o.dr.length≤400∧o.ft.length≤400):bu (ZW (some ⟨b,0⟩) (i:Int) (some ⟨a,0⟩)) (gW b v^fJ a o) (λ_=>gW b (oD v i o).2^fJ a (oD v i o).1):=
 bC λw0 S R h=>by
  obtain⟨p,ck,q,l,h⟩:=(h.le (aJ _)).gW b;have eit:((i:Nat):Int).toNat=i:=eX i;have h:au w0 S R w0 (vk p v.so i^af b (mL v.c ck p q l)^af ck [aB v.aj]^qS q v.q^vc l v.l^fJ a o^bg):=by
   cases hs:v.so i with
   |none=>exact(h.Y4 p v.so hi hs).2.aI
   |some x=>obtain⟨ap,_,h⟩:=h.NH p v.so hi hs;exact h.drop.aI
  refine ac ⟨by omega,?_⟩;rw[eit];refine aA h b (mL v.c ck (wG p i none) q l) rfl (by rcases S5 hi with rfl|rfl|rfl|rfl|rfl|rfl|rfl|rfl<;>rfl) (S7 v.c ck p q l i hi none) λw h=>?_;have h:=h.aac p v.so hi (wG p i none) (gZ v.so i none) (λj hj=>A3 p none hj) (λj hj=>ki v.so none hj) (sR p i none) (fu v.so i none);refine ac (ah (x:=some ⟨q,0⟩) h rfl (ar (Cu.J8 q v.q hv.q (i:Int)) h λr w h=>?_));obtain⟨cl,hcl⟩:∃cl,cl=(cO v.q (i:Int)).1:=⟨_,rfl⟩;have hcn:cl.length≤512:=by rw[hcl];exact wT hv.q i
  have hrl:=(h.rd (s:=r)).2;rw[←hcl]at hrl h;have h:au w0 S R w (vc l (dj v.l o (cl.take (0:Int).toNat)).2^fJ a (dj v.l o (cl.take (0:Int).toNat)).1^aS r KS cl^af b (mL v.c ck (wG p i none) q l)^af ck [aB v.aj]^qS q (cO v.q (i:Int)).2^oE (wG p i none) (gZ v.so i none)^bg):=h.aI (A:=vc l v.l^fJ a o^aS r KS cl^af b (mL v.c ck (wG p i none) q l)^af ck [aB v.aj]^qS q (cO v.q (i:Int)).2^oE (wG p i none) (gZ v.so i none)^bg);refine fY (λ(y:Int) (_:Unit)=>vc l (dj v.l o (cl.take y.toNat)).2^fJ a (dj v.l o (cl.take y.toNat)).1^aS r KS cl^af b (mL v.c ck (wG p i none) q l)^af ck [aB v.aj]^qS q (cO v.q (i:Int)).2^oE (wG p i none) (gZ v.so i none)^bg) (λ(y:Int) _=>0≤y∧y≤cl.length) (λ(y:Int) _=>(cl.length-y.toNat)) () h ⟨by decide,by omega⟩ ?_;rintro K (y:Int) _ w ⟨h0,h1⟩ h next
  refine ae (λc=>?_) λc=>?_
  ·have c:y<((r.len:Nat):Int):=bV c;have hy:y.toNat<cl.length:=(by omega);have hwi:i64.wrap (y+1)=y+1:=gi;have hin:(y+1).toNat=y.toNat+1:=(by omega);obtain⟨s,hs⟩:∃s,cl[y.toNat]?=some s:=⟨_,jx hy⟩;obtain⟨d1,d2⟩:=wY v.l o (cl.take y.toNat);have dt:(cl.take y.toNat).length≤512:=(by rw[fO];omega);refine bS (s:=r) h h0 hy (dP h r y.toNat hs rfl (aD h λn9 w h=>az h (by rfl) λw h=>aw (b:=n9) (x:=s) h rfl ?_));refine ar (oq b a v.c (wG p i none) ck q l (dj v.l o (cl.take y.toNat)).2 (dj v.l o (cl.take y.toNat)).1 s 5 (by omega)) h λ_ w h=>?_;have e:dj v.l o (cl.take (y+1).toNat)=cy (dj v.l o (cl.take y.toNat)).2 (dj v.l o (cl.take y.toNat)).1 s 5:=(by rw[hin,lC,hs];exact BO _ _ _ _);rw[←e]at h;rw[hwi];exact next (y+1) () w ⟨by omega,by omega⟩ h.aI (by show cl.length-(y+1).toNat<cl.length-y.toNat;omega)
  ·have c:¬y<((r.len:Nat):Int):=bY c;rw[jZ (by omega)]at h;have h:=h.l_ b (wG p i none) ck q l {v with so:=gZ v.so i none,q:=(cO v.q (i:Int)).2,l:=(dj v.l o cl).2};rw[show oD v i o=((dj v.l o cl).1,{v with so:=gZ v.so i none,q:=(cO v.q (i:Int)).2,l:=(dj v.l o cl).2}) by unfold oD;rw[←hcl]];exact h.aI
abbrev KR:Ks:=[.int .u64,.int .u64]
structure JD(d:Dd):Prop where
 l:dL d<9223372036854775808
 u:U (dU d)
 a:U (dA d)
 c:0≤cH (dC d)∧U (cR (dC d))
theorem O7(ap)(k:Int)(x)(hx:py k x)(aj:Int)(hn:U aj)(d)(hd:JD d)(xs)(hxl:xs.length≤4294967296):bu (ZX (some ⟨ap,0⟩) d aj) (mR ap x^aV (dR d) KR xs) (λr=>bs (r=(dJ x aj d xs).1) (mR ap (dJ x aj d xs).2)):=
 bC λw0 S R h=>by
  refine aD (h.le (aJ _)) λn1 w h=>ah (x:=dK d) h rfl (ae (λc=>?_) λc=>?_)
  ·have c:dK d=2:=cC;refine ah (x:=dL d) h rfl (aK (Lr ap x hx.i.ok.bf (dL d) hd.l) h λw h=>?_);rw[show dJ x aj d xs=eM x (dL d) by unfold dJ;rw[aG c]];exact au.aH rfl h.aI
  have c:¬dK d=2:=cC;refine ae (λc3=>?_) λc3=>?_
  ·have c3:dK d=3:=(by simpa using c3);refine ah (x:=dU d) h rfl (ah (x:=dR d) h rfl ?_);refine bP (A:=mR ap x) (Q:=aV (dR d) KR xs) (Ik.OQ ap x hx.i.ok hx.i.ps aj (dU d) hn (dR d) xs hxl) h λr w h=>?_;obtain⟨hr,h⟩:=h.aP;rw[hr];rw[show dJ x aj d xs=nA.om x aj (dU d) xs by unfold dJ;rw[ay c,aG c3]];exact au.aH rfl h.aI
  have c3:¬dK d=3:=by simpa using c3
  refine ae (λc4=>?_) λc4=>?_
  ·have c4:dK d=4:=(by simpa using c4);refine aK (nz.Li ap x hx.i.ok aj hn) h λw h=>?_;rw[show dJ x aj d xs=(0,io x aj) by unfold dJ;rw[ay c,ay c3,aG c4]];exact au.aH rfl h.aI
  ·have c4:¬dK d=4:=(by simpa using c4);refine ah (x:=dL d) h rfl (aK (fe.EJ ap x hx.i.ok.out (dL d) hd.l) h λw h=>?_);rw[show dJ x aj d xs=cv x (dL d) by unfold dJ;rw[ay c,ay c3,ay c4]];exact au.aH rfl h.aI
end BE

namespace Ei
open bH bp ff lL lN fe xH A9 yM q_ Cs BE
open eI (Sk cq cv eM io iO cZ bB dV)
open oS (nj)
open mV (py)
theorem So(l:Nat→α)(i:Nat)(x y:α):gZ (gZ l i x) i y=gZ l i y:=funext λj=>by unfold gZ;split<;>rfl
theorem M1{k j:Int}(h:py k v)(hj:k≤j)(hj2:j≤1000000):py j v:=
 {i:=h.i.le hj,kr:=by have:=h.kr;omega,g:=h.g,b:=mV.Sz h.b (by omega)}
theorem Cw{k j:Int}(h:jS k v)(hj:k≤j)(hj2:j≤1000000):jS j v:=
 {c:=h.c,aj:=h.aj,q:=h.q,so:=λi x hx=>⟨M1 (h.so i x hx).1 hj hj2,(h.so i x hx).2⟩,kr:=by have:=h.kr;omega}
theorem qY{k:Int}(hx:py k x)(hk:k<1000000){aj:Int}(hn:U aj)(d)(xs:List (Int×Int)):py (k+1) (dJ x aj d xs).2∧(dJ x aj d xs).2.id=x.id:=by
 unfold dJ;split
 ·exact⟨hx.write hk _,rfl⟩
 ·split
  ·exact⟨hx.Ep hk hn _ _,by unfold nA.om;split<;>rfl⟩
  ·split
   ·exact⟨hx.yh hk hn,rfl⟩
   ·exact⟨hx.done hk _,by unfold cv;split<;>rfl⟩
theorem D5{k:Int}{v:Mc}(hv:jS k v){i:Nat}(hi:i<8){x:Sk}(hx:py k x)(hid:x.id=(i:Int)):jS k {v with so:=gZ v.so i (some x)}:=by
 have hso:∀j y,gZ v.so i (some x) j=some y→py k y∧y.id=(j:Int)∧j<8:=λj y hy=>by
  by_cases e:j=i
  ·subst e;rw[fu]at hy;cases hy;exact⟨hx,hid,hi⟩
  ·rw[ki _ _ e]at hy;exact hv.so j y hy
 exact{hv with so:=hso}
theorem WH{k:Int}(hv:jS k v)(i):jS k {v with so:=gZ v.so i none}:=by
 have hso:∀j y,gZ v.so i none j=some y→py k y∧y.id=(j:Int)∧j<8:=λj y hy=>by
  by_cases e:j=i
  ·subst e;rw[fu]at hy;cases hy
  ·rw[ki _ _ e]at hy;exact hv.so j y hy
 exact{hv with so:=hso}
theorem RH(b a)(k:Int)(v)(hv:jS k v)(hk:k<1000000)(d)(hd:JD d)(xs)(hxl:xs.length≤4294967296)(o)(hl:o.dr.length≤400∧o.ft.length≤400):
  bu (ZL (some ⟨b,0⟩) d (some ⟨a,0⟩)) ((gW b v^fJ a o)^aV (dR d) KR xs) (λr=>bs (r=(jf v d xs o).1) (gW b (jf v d xs o).2.2^fJ a (jf v d xs o).2.1)):=
 bC λw0 S R h=>by
  refine aD (h.le (aJ _)) λn1 w h=>ah (x:=dS d) h rfl (aK (VZ (dS d)) (h.le ((aJ _).trans (be _ _))) λw h=>?_);have h:au w0 S R w (af n1 (Ks.mk KD d)^gW b v^fJ a o^aV (dR d) KR xs^bg):=h.aI;refine ae (λc=>?_) λc=>?_
  ·have c:¬(0≤dS d∧dS d<8):=λhh=>by rw[mE hh]at c;cases c
   rw[show jf v d xs o=(8,o,v) by unfold jf;rw[aG c]];exact au.aH rfl h.aI
  have c:0≤dS d∧dS d<8:=by
   by_cases hh:0≤dS d∧dS d<8
   ·exact hh
   ·rw[nO hh]at c;cases c
  obtain⟨i,hi⟩:∃i:Nat,dS d=(i:Int):=⟨(dS d).toNat,by omega⟩;have hi8:i<8:=by omega
  have eit:((i:Nat):Int).toNat=i:=eX i;have hone:jf v d xs o=match v.so i with
    |none=>if dK d=1 then(0,o,{v with so:=gZ v.so i (some (iO (i:Int) (eU v.c) (dZ v.c)))})else(10,o,v)
    |some x=>if dK d=1 then(9,o,v)else if dK d=9 then(0,(oD v i o).1,(oD v i o).2)
     else if(dJ x v.aj d xs).1=0 then(0,(mC v i (dJ x v.aj d xs).2 o).1,(mC v i (dJ x v.aj d xs).2 o).2)
     else((dJ x v.aj d xs).1,o,{v with so:=gZ v.so i (some (dJ x v.aj d xs).2)}):=by
   unfold jf;first
    |(rw[ay (λhh=>hh c),hi,eit];cases v.so i<;>rfl)
    |rw[ay (λhh=>hh c),hi,eit]
  obtain⟨p,ck,q,l,h⟩:=h.gW b;have hsn:=aaf h p v.so hi8;have hat:Ks.un [.ptr] (((mL v.c ck p q l).drop (0+10+(dS d).toNat*1)).take 1)=some (p i):=by rw[hi,eit,S6 v.c ck p q l i hi8]
  refine aM h λw h=>ah (x:=dS d) h rfl (ac ⟨c,ah h hat (ah (x:=dK d) h rfl ?_)⟩);cases hs:v.so i with
  |none=>
   rw[hs]at hsn hone;have hpn:p i=none:=by simpa using hsn
   rw[hpn];refine ae (λcc=>(by simp at cc)) λ_=>ah (x:=dK d) h rfl (ae (λc1=>?_) λc1=>?_)
   ·have c1:dK d=1:=(by simpa using c1);dsimp only at hone;rw[aG c1]at hone;rw[hone];refine aM h λw h=>ah (x:=dS d) h rfl (ah (x:=dS d) h rfl (ac (ac (ah (x:=v.c) h rfl ?_))));rw[hi];refine ar (yO.O2 (i:Int) v.c) (h.le ((aJ _).trans (be _ _))) λr w h=>?_;obtain⟨ap,h⟩:=h.lV;obtain⟨hr,h⟩:=h.aP;rw[hr];have h:au w0 S R w (mR ap (iO (i:Int) (eU v.c) (dZ v.c))^af n1 (Ks.mk KD d)^(af b (mL v.c ck p q l)^af ck [aB v.aj]^qS q v.q^vc l v.l^oE p v.so)^fJ a o^bg):=h.aI;refine aN h (by show [Lf.int i64 (dS d)]=_;rw[hi];rfl) ⟨by omega,?_⟩;rw[eit];obtain⟨_,h⟩:=h.Y4 p v.so hi8 hs;refine aA h b (mL v.c ck (wG p i (some ⟨ap,0⟩)) q l) rfl (by rcases S5 hi8 with rfl|rfl|rfl|rfl|rfl|rfl|rfl|rfl<;>rfl) (S7 v.c ck p q l i hi8 (some ⟨ap,0⟩)) λw h=>?_;have h:=h.W9 p v.so hi8 (wG p i (some ⟨ap,0⟩)) (gZ v.so i (some (iO (i:Int) (eU v.c) (dZ v.c)))) ap (iO (i:Int) (eU v.c) (dZ v.c)) (λj hj=>A3 p _ hj) (λj hj=>ki v.so _ hj) (sR p i _) (fu v.so i _);have h:=h.l_ b (wG p i (some ⟨ap,0⟩)) ck q l {v with so:=gZ v.so i (some (iO (i:Int) (eU v.c) (dZ v.c)))};exact au.aH rfl h.aI
   ·have c1:¬dK d=1:=(by simpa using c1);dsimp only at hone;rw[ay c1]at hone;rw[hone];refine ae (λ_=>?_) λcc=>(by simp at cc);have h:=h.l_ b p ck q l v;exact au.aH rfl h.aI
  |some x=>
   obtain⟨hx,hid,_⟩:=hv.so i x hs;rw[hs]at hsn hone;obtain⟨ap,hp,h⟩:=h.NH p v.so hi8 hs;rw[hp];refine ae (λc1=>?_) λc1=>?_
   ·have c1:dK d=1:=(by simpa using c1);dsimp only at hone;rw[aG c1]at hone;rw[hone];have h:=h.W9 p v.so hi8 p v.so ap x (λ_ _=>rfl) (λ_ _=>rfl) hp hs;have h:=h.l_ b p ck q l v;exact au.aH rfl h.aI
   have c1:¬dK d=1:=(by simpa using c1);dsimp only at hone;rw[ay c1]at hone;refine ah (x:=dK d) h rfl (ae (λcc=>(by simp at cc;exact absurd cc c1)) λ_=>ae (λcc=>(by simp at cc)) λ_=>ah (x:=dK d) h rfl (ae (λc9=>?_) λc9=>?_))
   ·have c9:dK d=9:=(by simpa using c9);rw[aG c9]at hone;rw[hone];have h:=h.W9 p v.so hi8 p v.so ap x (λ_ _=>rfl) (λ_ _=>rfl) hp hs;have h:=h.l_ b p ck q l v;refine ah (x:=dS d) h rfl ?_;rw[hi];refine ar (OZ b a k v hv i hi8 o hl) h λ_ w h=>?_;exact au.aH rfl h.aI
   have c9:¬dK d=9:=(by simpa using c9);rw[ay c9]at hone;refine aM h λw h=>aw (b:=n1) (x:=d) h rfl (aK (qj b v.c p ck q l v.aj) h λw h=>?_);refine aO (b:=n1) h ?_;refine bP (A:=mR ap x) (Q:=aV (dR d) KR xs) (O7 ap k x hx v.aj hv.un d hd xs hxl) h λr w h=>?_;obtain⟨hr,h⟩:=h.aP;rw[hr];obtain⟨hx2,hid2⟩:=qY hx hk hv.un d xs;have h:=h.W9 p v.so hi8 p (gZ v.so i (some (dJ x v.aj d xs).2)) ap (dJ x v.aj d xs).2 (λ_ _=>rfl) (λj hj=>ki v.so _ hj) hp (fu v.so i _);have h:=h.l_ b p ck q l {v with so:=gZ v.so i (some (dJ x v.aj d xs).2)};have hv2:jS (k+1) {v with so:=gZ v.so i (some (dJ x v.aj d xs).2)}:=D5 (Cw hv (by omega) (by omega)) hi8 hx2 (hid2.trans hid);refine ae (λc0=>?_) λc0=>?_
   ·have c0:(dJ x v.aj d xs).1=0:=(by simpa using c0);rw[aG c0]at hone;rw[hone];refine ah (x:=dS d) h rfl ?_;rw[hi];refine ar (NS b a (k+1) {v with so:=gZ v.so i (some (dJ x v.aj d xs).2)} hv2 i (dJ x v.aj d xs).2 (fu v.so i _) o (by omega)) h λ_ w h=>?_;have e:mC {v with so:=gZ v.so i (some (dJ x v.aj d xs).2)} i (dJ x v.aj d xs).2 o=mC v i (dJ x v.aj d xs).2 o:=by
     unfold mC;dsimp only;rw[So]
    rw[e]at h;exact au.aH c0 h.aI
   ·have c0:¬(dJ x v.aj d xs).1=0:=(by simpa using c0);rw[ay c0]at hone;rw[hone];exact au.aH rfl h.aI
abbrev fm:Ks:=[.sl,.sl,.sl,.int .u64]
def nq(r:Ks.T fm)(o:Ou):SP:=bs (r.2.2.2=o.wd) (aS r.1 KS o.oo^aS r.2.1 KS o.dr^aS r.2.2.1 KI o.ft)
instance(r:Ks.T fm)(o:Ou):nl (nq r o):=by unfold nq;infer_instance
theorem Yc{k:Int}(h:vN k=true):k=1∨k=2∨k=3∨k=4∨k=7∨k=9:=by unfold vN at h;simp only[uV,qQ]at h;omega
theorem VN(b)(k:Int)(v)(hv:jS k v)(hk:k<1000000)(d)(hd:JD d)(xs)(hxl:xs.length≤4294967296):
  bu (Zz (some ⟨b,0⟩) d) (gW b v^aV (dR d) KR xs) (λr=>bs (r.2=(ri v d xs).1.2) (gW b (ri v d xs).2^nq r.1 (ri v d xs).1.1)):=
 bC λw0 S R h=>by
  refine aD (h.le (aJ _)) λn1 w h=>aD h λn2 w h=>ae (λc=>(by simp at c)) λ_=>aD h λn4 w h=>?_;have h:=h.nil KS;have h:=h.nil KS;have h:=h.nil KI;have h:=h.xc n4 ⟨none,0,0⟩ ⟨none,0,0⟩ ⟨none,0,0⟩ fk;have h:au w0 S R w (af n1 (Ks.mk KD d)^fJ n4 fk^gW b v^aV (dR d) KR xs^af n2 [aY ⟨none,0,0⟩,aY ⟨none,0,0⟩,aY ⟨none,0,0⟩,aB 0]^bg):=h.aI;refine aQ h (λ_=>fJ n4 (eC v d xs).2.1^gW b (eC v d xs).2.2^af n2 [aY ⟨none,0,0⟩,aY ⟨none,0,0⟩,aY ⟨none,0,0⟩,aB 0]^bg) (λy:Int=>y=(eC v d xs).1) (λ(y:Int) w hy h=>?_) ?_
  ·rw[hy];refine ae (λc=>?_) λc=>?_
   ·have c:(eC v d xs).1≠0:=cC;rw[show ri v d xs=((fk,(eC v d xs).1),(eC v d xs).2.2) by unfold ri;rw[aG c]];refine az h (by rfl) λw h=>aw (b:=n2) (x:=((⟨none,0,0⟩,⟨none,0,0⟩,⟨none,0,0⟩,0):Ks.T fm)) h rfl ?_;have h:=h.nil KS;have h:=h.nil KS;have h:=h.nil KI;have h:au w0 S R w (nq (⟨none,0,0⟩,⟨none,0,0⟩,⟨none,0,0⟩,0) fk^gW b (eC v d xs).2.2^bg):=au.i_ (p:=((⟨none,0,0⟩,⟨none,0,0⟩,⟨none,0,0⟩,0):Ks.T fm).2.2.2=fk.wd) (A:=aS ⟨none,0,0⟩ KS []^aS ⟨none,0,0⟩ KS []^aS ⟨none,0,0⟩ KI []) rfl h.aI;exact au.aH rfl h.aI
   ·have c:(eC v d xs).1=0:=cC;rw[show ri v d xs=(((eC v d xs).2.1,0),(eC v d xs).2.2) by unfold ri;rw[ay (λx=>x c)]];obtain⟨s1,s2,s3,h⟩:=h.fJ n4;refine aw (b:=n4) (x:=((s1,s2,s3,(eC v d xs).2.1.wd):Ks.T fm)) h rfl (az h (by rfl) λw h=>aw (b:=n2) (x:=((s1,s2,s3,(eC v d xs).2.1.wd):Ks.T fm)) h rfl ?_);have h:au w0 S R w (nq (s1,s2,s3,(eC v d xs).2.1.wd) (eC v d xs).2.1^gW b (eC v d xs).2.2^bg):=au.i_ (p:=((s1,s2,s3,(eC v d xs).2.1.wd):Ks.T fm).2.2.2=(eC v d xs).2.1.wd) (A:=aS s1 KS (eC v d xs).2.1.oo^aS s2 KS (eC v d xs).2.1.dr^aS s3 KI (eC v d xs).2.1.ft) rfl h.aI;exact au.aH rfl h.aI
  ·refine ah (x:=dK d) h rfl (ae (λc5=>?_) λc5=>?_)
   ·have c5:dK d=5:=(by simpa using c5);rw[show eC v d xs=((iN v.aj (dA d)).1,fk,{v with aj:=(iN v.aj (dA d)).2}) by unfold eC;rw[aG c5]];obtain⟨p,ck,q,l,h⟩:=h.gW b;refine aM h λw h=>ac (ah (x:=dA d) h rfl (ah (x:=some ⟨ck,0⟩) h rfl (aK (Nt ck v.aj (dA d)) h λw h=>?_)));have h:=h.l_ b p ck q l {v with aj:=(iN v.aj (dA d)).2};exact⟨rfl,h.aI⟩
   have c5:¬dK d=5:=(by simpa using c5);refine ae (λc6=>?_) λc6=>?_
   ·have c6:dK d=6:=(by simpa using c6);rw[show eC v d xs=(0,(fN v fk).1,(fN v fk).2) by unfold eC;rw[ay c5,aG c6]];refine ar (NQ b n4 k v hv fk) h λ_ w h=>?_;exact⟨rfl,h.aI⟩
   have c6:¬dK d=6:=(by simpa using c6);refine ae (λc8=>?_) λc8=>?_
   ·have c8:dK d=8:=(by simpa using c8);rw[show eC v d xs=((rH v (dC d)).1,fk,(rH v (dC d)).2) by unfold eC;rw[ay c5,ay c6,aG c8]];refine ah (x:=dC d) h rfl (aK (mS b v (dC d)) h λw h=>?_);exact⟨rfl,h.aI⟩
   have c8:¬dK d=8:=(by simpa using c8);have estep:eC v d xs=if vN (dK d)then jf v d xs fk else(12,fk,v):=by unfold eC;rw[ay c5,ay c6,ay c8]
   refine aQ h (λ_=>af n1 (Ks.mk KD d)^fJ n4 fk^gW b v^aV (dR d) KR xs^af n2 [aY ⟨none,0,0⟩,aY ⟨none,0,0⟩,aY ⟨none,0,0⟩,aB 0]^bg) (λy:Bool=>y=vN (dK d)) (λ(y:Bool) w hy h=>?_) ?_
   ·rw[hy];refine ae (λc=>?_) λc=>?_
    ·rw[aG c]at estep;rw[estep];refine aw (b:=n1) (x:=d) h rfl ?_;refine bP (A:=gW b v^fJ n4 fk) (Q:=aV (dR d) KR xs) (RH b n4 k v hv hk d hd xs hxl fk ⟨by show(0:Nat)≤400;decide,by show(0:Nat)≤400;decide⟩) h λr w h=>?_;obtain⟨hr,h⟩:=h.aP;rw[hr];exact⟨rfl,h.aI⟩
    ·rw[ay (by rw[c];simp)]at estep;rw[estep];exact⟨rfl,h.aI⟩
   ·unfold vN;refine ae (λc=>⟨by rw[c];rfl,h⟩) λd1=>?_;refine ae (λc=>⟨by rw[d1,c];rfl,h⟩) λd2=>?_;refine ae (λc=>⟨by rw[d1,d2,c];rfl,h⟩) λd3=>?_;refine ae (λc=>⟨by rw[d1,d2,d3,c];rfl,h⟩) λd4=>?_;refine ae (λc=>⟨by rw[d1,d2,d3,d4,c];rfl,h⟩) λd5=>?_;exact⟨by rw[d1,d2,d3,d4,d5];rfl,h⟩
end Ei

namespace Jv
open bH bp lL xH
class PB(A:SP):Prop where
 nos:∀w S R,A.h w S R→∀k,¬S k
instance(s:Sl)(K:Ks)(xs:List (Ks.T K)):PB (aV s K xs):=⟨λ_ _ _ h=>h.2.1⟩
instance:PB bg:=⟨λ_ _ _ h=>h.1⟩
instance(A B:SP)[a:PB A][b:PB B]:PB (A^B):=⟨λ_ _ _ ⟨_,_,_,_,h1,h2,hS,_⟩ k hk=>((hS k).1 hk).elim (a.nos _ _ _ h1 k) (b.nos _ _ _ h2 k)⟩
theorem Nw(f)(h:∀x,PB (f x)):∀l:List α,PB (rl f l)
 |[]=>by unfold rl;infer_instance
 |x::l=>by have:=Nw f h l;have:=h x;unfold rl;infer_instance
instance{α:Type}(f:α→SP)(l:List α)[h:∀x,PB (f x)]:PB (rl f l):=Nw f h l
instance (priority:=300) Xa(A F G:SP)[t:Take A F G][n:PB A]:oF A F:=⟨λw S R h=>by
 obtain⟨S1,R1,S2,R2,h1,h2,hS,hR,_⟩:=t.le w S R h;have e:S1=λ_=>False:=funext λk=>eq_false (n.nos _ _ _ h1 k);rw[e]at h1;exact⟨R1,h1,λk hk=>.inr ((hR k).2 (.inl hk))⟩⟩
abbrev KR:Ks:=[.int .u64,.int .u64]
abbrev BG:=Dd×List (Ks.T KR)
abbrev jM(s:Sl)(ps:List BG):SP:=aV s KD (ps.map Prod.fst)^rl (λp:BG=>aV (dR p.1) KR p.2) ps
def xM(d:Dd):Dd:=(dK d,dS d,(if dL d>200000 then 200000 else dL d),dU d,dA d,(if(dR d).len>6 then(dR d).sub 0 6 (dR d).cap 2 else dR d),dC d)
def jV(most:Int)(ps:List BG):List BG:=(ps.take most.toNat).map λp=>(xM p.1,p.2.take 6)
structure WW(p:BG):Prop where
 l:-9223372036854775808≤dL p.1∧dL p.1<9223372036854775808
 u:U (dU p.1)
 a:U (dA p.1)
 c:0≤cH (dC p.1)∧U (cR (dC p.1))
 n:p.2.length≤9223372036854775807
 cp:(dR p.1).len≤(dR p.1).cap
theorem Wb{p:BG}(h:∀k n,Lf.int k n∈Ks.mk KD p.1→(Lit.int k n).wf=true)(hm:p.2.length≤maxLen)(hc:(dR p.1).len≤(dR p.1).cap):WW p where
 l:=Wf.i (h .i64 (dL p.1) (gI (i:=2) rfl))
 u:=Wf.u (h .u64 (dU p.1) (gI (i:=3) rfl))
 a:=Wf.u (h .u64 (dA p.1) (gI (i:=4) rfl))
 c:=⟨(Wf.u (h .u64 (cH (dC p.1)) (gI (i:=10) rfl))).1,Wf.u (h .u64 (cR (dC p.1)) (gI (i:=11) rfl))⟩
 n:=hm
 cp:=hc
theorem FJ{ps:List BG}{i:Nat}{o:BG}(h:ps[i]?=some o):Rd (dR o.1) (rl (λp:BG=>aV (dR p.1) KR p.2) ps) KR o.2:=x4 h (RS _ _ _)
theorem RQ(p:BG)(F:SP)(hc:(dR p.1).len≤(dR p.1).cap)(hl:(dR p.1).len=p.2.length)[t:Rd (dR p.1) F KR p.2]:Rd (dR (xM p.1)) F KR (p.2.take 6):=by
 show Rd (if(dR p.1).len>6 then(dR p.1).sub 0 6 (dR p.1).cap 2 else dR p.1) F KR (p.2.take 6);by_cases h:(dR p.1).len>6
 ·rw[aG h];exact DO (dR p.1) F KR p.2 0 6 (dR p.1).cap (by omega) (by omega) (by omega)
 ·rw[ay h,jZ (by omega)];exact t
abbrev zD:List Lf:=[aE 0,aE 0,aE 0,aB 0,aB 0,aY ⟨none,0,0⟩,aE 0,aE 0,aE 0,aE 0,aB 0,aB 0,bc false,aE 0,aE 0]
theorem zf(d xs)(hc:(dR d).len≤(dR d).cap):bu (Zx d) (bg^aV (dR d) KR xs) (λr=>bs (r=xM d) bg):=
 bC λw0 S R h=>by
  have hs:=(h.drop.rd (s:=dR d)).2;obtain⟨R',hR'⟩:∃R',R'=(if(dR d).len>6 then(dR d).sub 0 6 (dR d).cap 2 else dR d):=⟨_,rfl⟩;obtain⟨L',hL'⟩:∃L',L'=(if dL d>200000 then 200000 else dL d):=⟨_,rfl⟩;have e:xM d=(dK d,dS d,L',dU d,dA d,R',dC d):=by rw[hL',hR'];rfl
  refine aD h λn1 w h=>aD h λn2 w h=>?_;have h:au w0 S R w (af n1 (Ks.mk KD d)^af n2 zD^aV (dR d) KR xs^bg):=h.aI;refine aQ h (λ_=>af n1 (Ks.mk KD (dK d,dS d,dL d,dU d,dA d,R',dC d))^af n2 zD^bg) (λ_=>True) (λ_ w _ h=>?_) ?_
  ·refine aQ h (λ_=>af n1 (Ks.mk KD (dK d,dS d,L',dU d,dA d,R',dC d))^af n2 zD^bg) (λ_=>True) (λ_ w _ h=>?_) ?_
   ·refine aw (b:=n1) (x:=((dK d,dS d,L',dU d,dA d,R',dC d):Dd)) h rfl (az h (by rfl) λw h=>aw (b:=n2) (x:=((dK d,dS d,L',dU d,dA d,R',dC d):Dd)) h rfl ?_);exact au.aH e.symm h.gm
   ·refine ah (x:=dL d) h rfl (ae (λc=>?_) λc=>?_)
    ·have c:dL d>200000:=bV c;rw[aG c]at hL';refine aA h n1 (Ks.mk KD (dK d,dS d,L',dU d,dA d,R',dC d)) rfl rfl (by rw[hL'];rfl) λw h=>?_;exact⟨trivial,h.aI⟩
    ·have c:¬dL d>200000:=bY c;rw[ay c]at hL';rw[hL'];exact⟨trivial,h⟩
  ·refine ah (x:=dR d) h rfl (ae (λc=>?_) λc=>?_)
   ·have c:(((dR d).len:Nat):Int)>6:=bV c;have c2:(dR d).len>6:=(by omega);rw[aG c2]at hR';have hN:Cv (dR d):=Cv.qM (h.rd (s:=dR d)).1 (by omega);refine ah (x:=dR d) h rfl (D8 (K:=KR) (xs:=xs) (s:=dR d) h hN 0 6 (dR d).cap rfl rfl rfl rfl (by omega) (by omega) (by omega) (eE _) λ_ _=>?_);rw[←hR'];refine aA h n1 (Ks.mk KD (dK d,dS d,dL d,dU d,dA d,R',dC d)) rfl rfl rfl λw h=>?_;exact⟨trivial,h.aI⟩
   ·have c:¬(((dR d).len:Nat):Int)>6:=bY c;have c2:¬(dR d).len>6:=(by omega);rw[ay c2]at hR';rw[hR'];exact⟨trivial,h.aI⟩
theorem Kb(s ps)(most:Int)(hm:0≤most∧most≤1000)(hp:∀p∈ps,WW p):bu (c8 s most) (bg^jM s ps) (λr=>aS r KD ((jV most ps).map Prod.fst)):=
 bC λw0 S R h=>by
  have h:au w0 S R w0 (aV s KD (ps.map Prod.fst)^rl (λp:BG=>aV (dR p.1) KR p.2) ps^bg):=h.aI;have hsl:=(h.rd (s:=s)).2;rw[fz]at hsl;have h:=h.nil KD;have h:au w0 S R w0 (aS ⟨none,0,0⟩ KD ((jV 0 ps).map Prod.fst)^aV s KD (ps.map Prod.fst)^rl (λp:BG=>aV (dR p.1) KR p.2) ps^bg):=h;refine fY (λ(y:Sl×Int) (_:Unit)=>aS y.1 KD ((jV y.2 ps).map Prod.fst)^aV s KD (ps.map Prod.fst)^rl (λp:BG=>aV (dR p.1) KR p.2) ps^bg) (λ(y:Sl×Int) _=>0≤y.2∧y.2≤most) (λ(y:Sl×Int) _=>(most-y.2).toNat) () h ⟨by decide,hm.1⟩ ?_;rintro K (y:Sl×Int) _ w ⟨h0,h1⟩ h next
  obtain⟨r,i⟩:=y;dsimp only at h0 h1 h⊢;refine ae (λc=>?_) λc=>?_
  ·have c:i<ps.length∧i<most:=by
    have c:(decide (i<((s.len:Nat):Int))&&decide (i<most))=true:=c;rw[d_,iZ,iZ]at c;omega
   have hi:i.toNat<ps.length:=(by omega);have hwi:i64.wrap (i+1)=i+1:=gi;have hin:(i+1).toNat=i.toNat+1:=(by omega);obtain⟨p,hpi⟩:∃p,ps[i.toNat]?=some p:=⟨_,jx hi⟩;have hpm:(ps.map Prod.fst)[i.toNat]?=some p.1:=by rw[kV,hpi];rfl
   haveI:=FJ hpi
   have hO:=hp p (gI hpi);refine bS (s:=s) h h0 (by rw[fz];exact hi) (dP h s i.toNat hpm rfl ?_);refine bP (A:=bg) (Q:=aV (dR p.1) KR p.2) (zf p.1 p.2 hO.cp) (h.le ((aJ _).trans (be _ _))) λq w h=>?_;obtain⟨hq,h⟩:=h.aP;rw[hq];refine aD h λn6 w h=>?_;have h:=h.co n6 KD [xM p.1] rfl (by simp);have h:au w0 S R w (aS ⟨some ⟨n6,0⟩,1,1⟩ KD [xM p.1]^_):=h;have hlen:((jV i ps).map Prod.fst).length≤i.toNat:=(by rw[fz,jV,fz,fO];omega);refine dF (K:=KD) (s:=r) (xs:=(jV i ps).map Prod.fst) h rfl (by simp only[mc];omega) λs' w _ h=>?_;have e:(jV i ps).map Prod.fst++[xM p.1]=(jV (i+1) ps).map Prod.fst:=by
    unfold jV;rw[hin,lC,hpi,me,me];rfl
   rw[e]at h;rw[hwi];exact next (s',i+1) () w ⟨by show 0≤i+1;omega,by show i+1≤most;omega⟩ h.aI (by show(most-(i+1)).toNat<(most-i).toNat;omega)
  ·have e:jV i ps=jV most ps:=by
    unfold jV;have c:¬(i<ps.length∧i<most):=λhh=>by
     have c:(decide (i<((s.len:Nat):Int))&&decide (i<most))=false:=c;rw[mE (by omega),mE hh.2]at c;cases c
    by_cases h2:i<most
    ·rw[jZ (by omega:ps.length≤i.toNat),jZ (by omega:ps.length≤most.toNat)]
    ·rw[show i=most by omega]
   rw[e]at h;exact h.aI
end Jv

namespace Ls
open bH bp ff lL lN fe xH A9 yM q_ Cs BE Ei
open eI (Sk cq cv eM io iO cZ bB dV)
open oS (nj)
open mV (py)
theorem RM{k:Int}{v:Mc}(hv:jS k v){i:Nat}(hi:i<8){x:Sk}(hx:py k x)(hid:x.id=(i:Int))(o):jS k (mC v i x o).2:=by
 have h:=Fs hv.un (fresh x+1) ⟨x,v.q,v.l,o⟩ (⟨hx,hid,hv.q⟩:Bh k i ⟨x,v.q,v.l,o⟩);have h2:=D5 hv hi (x:=(pj i v.aj ⟨x,v.q,v.l,o⟩).v) h.v h.id;exact{h2 with q:=h.q}
theorem Sb{k:Int}(hv:jS k v)(i o):jS k (oD v i o).2:=by
 have h:=WH hv i;exact{h with q:=hv.q.close _}
theorem RL{k:Int}(hv:jS k v)(o):jS k (fN v o).2:=by
 have h:=Lt.MB hv.q hv.un (DL hv);unfold fN;split
 ·rename_i s q e;rw[e]at h;exact{hv with q:=h}
 ·rename_i q e;rw[e]at h;exact{hv with q:=h}
theorem Wq{k:Int}(hv:jS k v)(hc:0≤cH c∧U (cR c)):jS k (rH v c).2:=by
 have h:=hv.q.set hc;unfold rH;split
 ·rename_i h0;refine{hv with q:=h,c:=?_};unfold qX at h0;by_cases hm:may c=true
  ·exact C8 hm hc.1 hc.2
  ·rw[ay hm]at h0;cases h0
 ·exact{hv with q:=h}
theorem Wd{k:Int}(hv:jS k v)(hk:k<1000000)(d)(xs:List (Int×Int))(o):jS (k+1) (jf v d xs o).2.2:=by
 have h1:=Cw hv (j:=k+1) (by omega) (by omega);have hc:=hv.c.cap;unfold jf;split
 ·exact h1
 ·rename_i hi;have hi:0≤dS d∧dS d<8:=Dw.1 hi;have hi8:(dS d).toNat<8:=by omega
  split
  ·split
   ·have hn:=mV.Rx (dS d) (eU v.c) (dZ v.c) ⟨by omega,by omega⟩;exact D5 h1 hi8 (M1 hn h1.kr.1 (by omega)) (by show dS d=_;omega)
   ·exact h1
  ·rename_i x hx;obtain⟨hxi,hxd,_⟩:=hv.so _ x hx;split
   ·exact h1
   ·split
    ·exact Sb h1 _ _
    ·obtain⟨a,b⟩:=qY hxi hk hv.un d xs;split
     ·exact RM h1 hi8 a (b.trans hxd) o
     ·exact D5 h1 hi8 a (b.trans hxd)
theorem XU{k:Int}(hv:jS k v)(hk:k<1000000)(hd:JD d)(xs:List (Int×Int)):jS (k+1) (ri v d xs).2:=by
 have h1:=Cw hv (j:=k+1) (by omega) (by omega);have e:(ri v d xs).2=(eC v d xs).2.2:=by unfold ri;split<;>rfl
 rw[e];unfold eC;split
 ·have hn:=hv.aj;have ha:=hd.a;unfold U at ha;refine{h1 with aj:=?_};show 0≤(iN v.aj (dA d)).2∧(iN v.aj (dA d)).2≤4611686018427387904;unfold iN;split
  ·exact hn
  ·split
   ·exact hn
   ·exact⟨ha.1,by show dA d≤_;omega⟩
 ·split
  ·exact RL h1 _
  ·split
   ·exact Wq h1 hd.c
   ·split
    ·exact Wd hv hk d xs fk
    ·exact h1
theorem V9{c:Cf}(hc:yo c):jS 0 (dH c) where
 c:=hc
 aj:=by show(0:Int)≤0∧(0:Int)≤4611686018427387904;decide
 q:=jv.new hc
 so:=λi x h=>by cases h
 kr:=by decide
abbrev z7:Cf:=(3000,15000,100,50,10000000000,0,false,100000,1000)
theorem NK(a b:Ks.T fm)(x y:Ou)(hx:x.oo.length≤4294967296∧x.dr.length≤4294967296∧x.ft.length≤4294967296)(ha:a.2.2.2=x.wd)(hb:b.2.2.2=y.wd):bu (c13 a b)
  (bg^((aV a.1 KS x.oo^aV a.2.1 KS x.dr^aV a.2.2.1 KI x.ft)^aV b.1 KS y.oo^aV b.2.1 KS y.dr^aV b.2.2.1 KI y.ft)) (λr=>bs (r=true↔x=y) bg):=
 bC λw0 S R h=>by
  have hxy:x=y↔x.oo=y.oo∧x.dr=y.dr∧x.ft=y.ft∧x.wd=y.wd:=by cases x;cases y;simp
  refine aD h λn1 w h=>aD h λn2 w h=>ah (x:=a.1) h rfl (ah (x:=b.1) h rfl ?_);have h:au w0 S R w (bg^aV a.1 KS x.oo^aV b.1 KS y.oo^aV a.2.1 KS x.dr^aV b.2.1 KS y.dr^aV a.2.2.1 KI x.ft^aV b.2.2.1 KI y.ft^af n1 (Ks.mk fm a)^af n2 (Ks.mk fm b)^bg):=h.aI;refine bP (A:=bg) (Q:=aV a.1 KS x.oo^aV b.1 KS y.oo) (PO.uf a.1 b.1 x.oo y.oo hx.1) h λr w h=>?_;obtain⟨h1,h⟩:=h.aP;refine ae (λc=>?_) λc=>?_
  ·refine ah (x:=a.2.1) h rfl (ah (x:=b.2.1) h rfl ?_);refine bP (A:=bg) (Q:=aV a.2.1 KS x.dr^aV b.2.1 KS y.dr) (PO.uf a.2.1 b.2.1 x.dr y.dr hx.2.1) h λr w h=>?_;obtain⟨h2,h⟩:=h.aP;refine ae (λc2=>?_) λc2=>?_
   ·refine ah (x:=a.2.2.1) h rfl (ah (x:=b.2.2.1) h rfl ?_);refine bP (A:=bg) (Q:=aV a.2.2.1 KI x.ft^aV b.2.2.1 KI y.ft) (Jy.Br a.2.2.1 b.2.2.1 x.ft y.ft hx.2.2) h λr w h=>?_;obtain⟨h3,h⟩:=h.aP;refine ae (λc3=>?_) λc3=>?_
    ·refine ah (x:=a.2.2.2) h rfl (ah (x:=b.2.2.2) h rfl ?_);refine au.aH ?_ h.gm;rw[hxy,ha,hb,qQ];exact⟨λe=>⟨h1.1 c,h2.1 c2,h3.1 c3,e⟩,λe=>e.2.2.2⟩
    ·exact au.aH ⟨λe=>(by cases e),λe=>(by rw[h3.2 (hxy.1 e).2.2.1]at c3;cases c3)⟩ h.gm
   ·exact au.aH ⟨λe=>(by cases e),λe=>(by rw[h2.2 (hxy.1 e).2.1]at c2;cases c2)⟩ h.gm
  ·exact au.aH ⟨λe=>(by cases e),λe=>(by rw[h1.2 (hxy.1 e).1]at c;cases c)⟩ h.gm
end Ls

namespace LB
open bH bp ff lL lN fe xH A9 yM q_ Cs BE Ei Jv Ls
open eI (Sk cq cv eM io iO cZ bB dV)
theorem Mz{p:BG}(h:WW p):JD (xM p.1) where
 l:=by
  show(if dL p.1>200000 then 200000 else dL p.1)<9223372036854775808;split<;>omega
 u:=h.u
 a:=h.a
 c:=h.c
end LB

namespace Py
open bH bp ff lL lN fe xH A9 yM q_ Cs BE Ei Jv Ls LB
open eI (Sk cq cv eM io iO cZ bB dV)
open oS (nj)
open mV (py)
def H2(x:Option Fl):List Sg:=match x with
 |none=>[]
 |some f=>f.sg
abbrev b0(c:Ct):Int:=c.2.1
abbrev b1(c:Ct):Int:=c.2.2.1
abbrev b2(c:Ct):Int:=c.2.2.2.1
abbrev b3(c:Ct):Int:=c.2.2.2.2.1
abbrev b4(c:Ct):Int:=c.2.2.2.2.2.1
abbrev b5(c:Ct):Int:=c.2.2.2.2.2.2.1
end Py

namespace PK
open bH bp ff lL lN fe xH A9 yM q_ Cs BE Ei Jv Ls LB Py
open eI (Sk cq cv eM io iO cZ bB dV)
section
variable {w0 w:World} {S R:Nat→Prop}
end
abbrev c8(c:Ct):List Int:=[c.1,b0 c,b1 c,b2 c,b3 c,b4 c,b5 c,tO c]
end PK

namespace Pz
open bH bp ff lL lN fe xH A9 yM q_ Cs BE Ei Jv Ls LB Py PK
open eI (Sk cq cv eM io iO cZ bB dV)
section
variable {w0 w:World} {S R:Nat→Prop} {F G:SP}
end
theorem FL(c):bu (YQ c) bg (λr=>bs (r=may c) bg):=
 bC λw0 S R h=>by
  refine aD h λn1 w h=>?_;have no:∀{w:World},¬(may c=true)→au w0 S R w (af n1 (Ks.mk KC c)^bg)→au w0 S R w (bs (false=may c) bg):=λ{w} hm h=>au.aH (by cases hh:may c with
   |false=>rfl
   |true=>exact absurd hh hm) h.gm
  have um:may c=true↔((100≤cQ c∧cQ c≤65536)∧(100≤cF c∧cF c≤65536)∧(1≤cL c∧cL c≤512)∧(1≤cW c∧cW c≤512)∧cH c≤4611686018427387904∧(1≤dZ c∧dZ c≤1073741824)∧(100≤eU c∧eU c≤9000)):=by
   unfold may;simp only[d_,iZ]
  refine ah h rfl (ae (λc0=>?_) λc0=>?_);rotate_left
  ·have c0:¬cQ c≥100:=bY c0;exact no (λx=>by rw[um]at x;omega) h
  have c0:cQ c≥100:=bV c0;refine ah h rfl (ae (λc1=>?_) λc1=>?_);rotate_left
  ·have c1:¬cQ c≤65536:=bY c1;exact no (λx=>by rw[um]at x;omega) h
  have c1:cQ c≤65536:=bV c1;refine ah h rfl (ae (λc2=>?_) λc2=>?_);rotate_left
  ·have c2:¬cF c≥100:=bY c2;exact no (λx=>by rw[um]at x;omega) h
  have c2:cF c≥100:=bV c2;refine ah h rfl (ae (λc3=>?_) λc3=>?_);rotate_left
  ·have c3:¬cF c≤65536:=bY c3;exact no (λx=>by rw[um]at x;omega) h
  have c3:cF c≤65536:=bV c3;refine ah h rfl (ae (λc4=>?_) λc4=>?_);rotate_left
  ·have c4:¬cL c≥1:=bY c4;exact no (λx=>by rw[um]at x;omega) h
  have c4:cL c≥1:=bV c4;refine ah h rfl (ae (λc5=>?_) λc5=>?_);rotate_left
  ·have c5:¬cL c≤512:=bY c5;exact no (λx=>by rw[um]at x;omega) h
  have c5:cL c≤512:=bV c5;refine ah h rfl (ae (λc6=>?_) λc6=>?_);rotate_left
  ·have c6:¬cW c≥1:=bY c6;exact no (λx=>by rw[um]at x;omega) h
  have c6:cW c≥1:=bV c6;refine ah h rfl (ae (λc7=>?_) λc7=>?_);rotate_left
  ·have c7:¬cW c≤512:=bY c7;exact no (λx=>by rw[um]at x;omega) h
  have c7:cW c≤512:=bV c7;refine ah h rfl (ae (λc8=>?_) λc8=>?_);rotate_left
  ·have c8:¬cH c≤4611686018427387904:=bY c8;exact no (λx=>by rw[um]at x;omega) h
  have c8:cH c≤4611686018427387904:=bV c8;refine ah h rfl (ae (λc9=>?_) λc9=>?_);rotate_left
  ·have c9:¬dZ c≥1:=bY c9;exact no (λx=>by rw[um]at x;omega) h
  have c9:dZ c≥1:=bV c9;refine ah h rfl (ae (λPF=>?_) λPF=>?_);rotate_left
  ·have PF:¬dZ c≤1073741824:=bY PF;exact no (λx=>by rw[um]at x;omega) h
  have PF:dZ c≤1073741824:=bV PF;refine ah h rfl (ae (λP7=>?_) λP7=>?_);rotate_left
  ·have P7:¬eU c≥100:=bY P7;exact no (λx=>by rw[um]at x;omega) h
  have P7:eU c≥100:=bV P7;refine ah h rfl (au.aH ?_ h.gm);show decide (eU c≤9000)=may c;rw[jG,um,iZ];omega
end Pz

namespace EgP
open bH bp ff lL lN fe xH A9 yM q_ Cs BE Ei Jv Ls LB Py PK Pz
open eI (Sk cq cv eM io iO cZ bB dV)
section
variable {w0 w:World} {S R:Nat→Prop}
end
def fill{α:Type}(f:Nat→α)(z:α)(y:Nat):List α:=[if 0<y then f 0 else z,if 1<y then f 1 else z,if 2<y then f 2 else z,if 3<y then f 3 else z,if 4<y then f 4 else z,if 5<y then f 5 else z,if 6<y then f 6 else z,if 7<y then f 7 else z]
abbrev fC(v:Mc)(j:Nat):Ks.T PA:=VJ v.l (j:Int)
end EgP

namespace WU
open bH bp ff lL lN fe xH A9 yM q_ Cs BE Ei Jv Ls LB Py PK Pz
open eI (Sk cq cv eM io iO cZ bB dV)
abbrev d0:Dd:=(0,0,0,0,0,⟨none,0,0⟩,0,0,0,0,0,0,false,0,0)
abbrev Be(ps:List BG)(j:Nat):BG:=ps.getD j (d0,[])
def ng(v:Mc)(ps:List BG):Nat→Mc
 |0=>v
 |j+1=>(ri (ng v ps j) (Be ps j).1 (Be ps j).2).2
def eJ(v:Mc)(ps:List BG):Nat→List Int
 |0=>[]
 |j+1=>eJ v ps j++[(ri (ng v ps j) (Be ps j).1 (Be ps j).2).1.2]
theorem sb(v ps):∀j,(eJ v ps j).length=j
 |0=>rfl
 |j+1=>by show(eJ v ps j++[_]).length=_;rw[gp,sb v ps j];rfl
theorem yG(hc:yo c)(hd:∀p∈ps,JD p.1):∀j:Nat,j≤1000→j≤ps.length→jS (j:Int) (ng (dH c) ps j)
 |0,_,_=>V9 hc
 |j+1,h1,h2=>by
  have hj:Be ps j=ps[j]:=by unfold Be;rw[nJ,jx (by omega)];rfl
  have:=XU (yG hc hd j (by omega) (by omega)) (by omega) (hd (Be ps j) (by rw[hj];exact qy _)) (Be ps j).2;rw[show(j:Int)+1=((j+1:Nat):Int) by omega]at this;exact this
end WU

namespace Lx
section
variable {w0 w:World} {S0 R0:Nat→Prop} {F G:SP}
theorem A6(hp:p)(k:A w):eA p A w:=⟨hp,k⟩
end
end Lx

set_option maxRecDepth 100000
namespace YD
open Go.RowKit
abbrev tB:TypeId:=72
abbrev tE:TypeId:=5
theorem PW{P:Program}{w:World}{t u ty e:TypeId}{i:TypeInfo}(ht:P.underlying t=some (.slice e))(hu:P.underlying u=some .string)(hi:P.info? e=some i)(hz:i.zero=some (.int .u8 0))(hsize:i.size=1)(hby:i.bytes=1)
  {v:Value} {n:Nat} {xs:List Value} (hown:w.ownsRow 0 e 1 v n xs) {s:ByteArray} (hb:n+s.size≤140737488355328) {v':Value} {w':World}
  (hr:(Builtin.append_ #[t,u] ty #[v,.string s]).run P w=.ok v' w') (hnil:v'=.slice none 0 0↔v=.slice none 0 0∧s.size=0):∀k,v'.ownBlock=some k→v.ownBlock=some k∨w.heap.size≤k:=by
 have hxl:xs.length=n:=by simpa using hown.1
 rcases hown.2 with⟨rfl,rfl⟩|⟨g,cap,cur,rfl,hbg,hg,hnc,hcm,hcs,htake⟩
 ·by_cases h0:s.size=0
  ·rw[hnil.2 ⟨rfl,h0⟩];intro k hk;cases hk
  ·have h:=run_append_nil_string (P:=P) w t u ty e i (.int .u8 0) ht hu hi hz s (by omega) (by omega) (by rw[hby];omega);rw[h]at hr
   injection hr with h1 _
   rw[←h1];intro k hk;simp only[Value.ownBlock,nL]at hk;exact .inr (by omega)
 ·by_cases hroom:n+s.size≤cap
  ·have h:=Lib.run_append_room_string (P:=P) w t u ty e i ht hu hi hsize g n cap cur hg s hroom (by omega);rw[h]at hr
   injection hr with h1 _
   rw[←h1];exact λk hk=>.inl hk
  ·have h:=Lib.run_append_grow_string (P:=P) w t u ty e i (.int .u8 0) ht hu hi hz ⟨g,0,none⟩ n cap xs (by rw[hsize];simpa using hxl) (hown.cells (g:=g) rfl) s (by omega) (by omega) (by rw[hby];exact growslice_fits (by omega) (by omega));rw[h]at hr
   injection hr with h1 _
   rw[←h1];intro k hk;simp only[Value.ownBlock,nL]at hk;exact .inr (by omega)
theorem Sw{P:Program}{w:World}{ops:Array Oper}{rest:List Oper}{o:Oper}{a:Act}{Q:Exit→Act→World→Prop}(hgd:o.guard=none)(sl x:Operand)(t u:TypeId)
  (ho:o.op=.call {callee:=.builtin .append,args:=#[sl,x],argTypes:=#[t,u]})
  (e:TypeId) (i:TypeInfo) (ht:P.underlying t=some (.slice e)) (hu:P.underlying u=some .string) (hi:P.info? e=some i) (hz:i.zero=some (.int .u8 0))
  (hsize:i.size=1) (hby:i.bytes=1)
  (v:Value) (n:Nat) (xs:List Value) (hs:a.eval sl=v) (hown:w.ownsRow 0 e 1 v n xs) (s:ByteArray) (hx:a.eval x=.string s)
  (hb:n+s.size≤140737488355328)
  (h:∀v' w',w'.ownsRow 0 e 1 v' (n+s.size) (xs++Lib.strCells s)→w.grownBy w' v.ownBlock→(∀k,v'.ownBlock=some k→v.ownBlock=some k∨w.heap.size≤k)→(v'=.slice none 0 0↔v=.slice none 0 0∧s.size=0)→wpList P ops Q rest (a.put o.dst v') w'):wpList P ops Q (o::rest) a w:=by
 refine wpList_plain hgd λK hK=>?_;obtain⟨v',w',hr,h2,h3,h4⟩:=Lib.run_append_own_string (P:=P) w 0 t u o.type e i ht hu hi hz hsize hby v n xs hown s (by unfold maxLen;omega) hb (gJ _);have h5:=PW ht hu hi hz hsize hby hown hb hr h4;unfold Oper.wp execOp;simp only[ho,resolve,invoke,builtin,cz,eh,dI,List.map_toArray,kJ,DH,hs,hx,hr];exact hK _ _ (h v' w' h2 h3 h5 h4)
theorem uB:Tryz.prog.underlying 70=some (.pointer tB):=by kernel_rfl
theorem uU:Tryz.prog.underlying 179=some .unsafePointer:=by kernel_rfl
theorem uS:Tryz.prog.underlying 42=some (.slice tE):=by kernel_rfl
theorem uT:Tryz.prog.underlying 9=some .string:=by kernel_rfl
theorem QO(b w)(h0:w.cell? ⟨b,0,none⟩=some (.pointer (some ⟨b,0,none⟩))):
  Calls Tryz.prog 53 #[.pointer (some ⟨b,0,none⟩)] w λe w'=>e=.returned (.tuple #[])∧w'=w:=by
 obtain⟨j,hj⟩:=ua.1 (show(Tryz.prog.info? tB).isSome=true by kernel_rfl)
 go_enter Tryz.func53,Tryz.ntmps53
 go_wp2
 rw[Lib.run_neq_ptr_same w _ uB hj]
 go_wp2
 go_end0
 exact⟨rfl,rfl⟩
theorem Mv(b w)(h0:w.cell? ⟨b,0,none⟩=some (.pointer none))(hsh:w.shape? b=some (tB,2))(hfz:w.frozen? ⟨b,0,none⟩=false):
  Calls Tryz.prog 53 #[.pointer (some ⟨b,0,none⟩)] w λe w'=>e=.returned (.tuple #[])∧w'=w.setCell ⟨b,0,none⟩ (.pointer (some ⟨b,0,none⟩)):=by
 obtain⟨j,hj,hs⟩:=Dn.1 (show(Tryz.prog.info? tB).map (·.size)=some 2 by kernel_rfl)
 go_enter Tryz.func53,Tryz.ntmps53
 go_wp2
 rw[Lib.run_to_unsafe w ⟨b,0,none⟩ uB uU hj (by rw[hs];decide) hsh (Nat.zero_lt_succ 1)];simp only[Result.andThen];rw[Hu]
 go_wp2
 rw[run_callFunc_extern Tryz.func81 (by kernel_rfl) (by kernel_rfl) (by kernel_rfl) (e:=Extern.AbiNoEscape.same) (by kernel_rfl)];rw[Lib.run_noEscape];simp only[Result.andThen];rw[Hu]
 go_wp2
 rw[Lib.run_from_unsafe w ⟨b,0,none⟩ uU uB hj hsh (by kernel_rfl)];simp only[Result.andThen];rw[Hu]
 go_wp2
 go_end0
 exact⟨rfl,rfl⟩
def At(b:Nat)(l:List UInt8)(w:World)(S:Nat→Prop):Prop:=
 ∃p v,(p=.pointer none∨p=.pointer (some ⟨b,0,none⟩))∧w.heap[b]?=some (.cells #[p,v] tB (0,0))∧w.ownsRow 0 tE 1 v l.length (Lib.byteCells l)∧v.ownBlock≠some b∧(∀k,S k↔k=b∨v.ownBlock=some k)∧(l=[]→v=.slice none 0 0)
theorem At.cells(h:At b l w S)(hk:S k):∃c t,w.heap[k]?=some (.cells c t (0,0)):=by
 obtain⟨p,v,hp,hb,ho,hn,hS,hz⟩:=h;rcases(hS k).1 hk with rfl|hk
 ·exact⟨_,_,hb⟩
 ·rcases ho.2 with⟨rfl,_⟩|⟨g,cap,cur,rfl,_,hg,_⟩
  ·cases hk
  ·simp only[Value.ownBlock,nL]at hk;exact⟨_,_,hk▸hg⟩
theorem At.ext(h:At b l w S)(os:w'.os=w.os)(tape:w'.tape=w.tape)(output:w'.output=w.output)(size:w.heap.size≤w'.heap.size)(same:∀k,k<w.heap.size→¬S k→w'.heap[k]?=w.heap[k]?):jq S w w':=
 ⟨os,tape,output,size,same,λk hk=>by
  by_cases hs:S k
  ·obtain⟨c,t,e⟩:=h.cells hs;rw[e]at hk;cases hk
  ·rw[same k (pk.1 hk).1 hs];exact hk⟩
theorem cc(b:Nat)(l:List UInt8)(w:World)(S:Nat→Prop)(h:At b l w S):Calls Tryz.prog 53 #[.pointer (some ⟨b,0,none⟩)] w λe w'=>e=.returned (.tuple #[])∧(∃v,w'.heap[b]?=some (.cells #[.pointer (some ⟨b,0,none⟩),v] tB (0,0))∧w'.ownsRow 0 tE 1 v l.length (Lib.byteCells l)∧v.ownBlock≠some b∧(∀k,S k↔k=b∨v.ownBlock=some k)∧(l=[]→v=.slice none 0 0))∧w.grownBy w' (some b)∧w'.heap.size=w.heap.size:=by
 obtain⟨p,v,hp,hb,ho,hn,hS,hz⟩:=h;have c0:w.cell? ⟨b,0,none⟩=some p:=by rw[Lib.cell_of_heap hb];rfl
 rcases hp with rfl|rfl
 ·refine(Mv b w c0 (by simp[World.shape?,hb]) (Lib.frozen_of_heap hb 0)).mono ?_;rintro e w' ⟨rfl,rfl⟩;have hg:w.grownBy (w.setCell ⟨b,0,none⟩ (.pointer (some ⟨b,0,none⟩))) (some b):=⟨rfl,rfl,rfl,by simp[World.setCell],λk _ hk=>Below.heap_setCell _ _ _ _ (λe=>hk (by simp[e]))⟩;refine⟨rfl,⟨v,?_,ho.kept hg (.inr hn),hn,hS,hz⟩,hg,by simp[World.setCell]⟩;simp[World.setCell,Dp,hb]
 ·refine(QO b w c0).mono ?_;rintro e w' ⟨rfl,rfl⟩;exact⟨rfl,⟨v,hb,ho,hn,hS,hz⟩,⟨rfl,rfl,rfl,eE _,λ_ _ _=>rfl⟩,rfl⟩
theorem ws(b:Nat)(l:List UInt8)(s:ByteArray)(w:World)(S:Nat→Prop)(h:At b l w S)(hlen:l.length+s.size≤140737488355328):
  Calls Tryz.prog 31 #[.pointer (some ⟨b,0,none⟩),.string s] w λe w'=>e=.returned (.tuple #[.int .i64 s.size,.nilIface])∧∃S',At b (l++s.data.toList) w' S'∧(∀k,S' k→S k∨w.heap.size≤k)∧jq S w w':=by
 obtain⟨i0,hi,hzz⟩:=Dn.1 (show(Tryz.prog.info? tE).map (λi=>(i.zero,i.size,i.bytes))=some (some (.int .u8 0),1,1) by kernel_rfl);simp only[Hx]at hzz;obtain⟨hz0,hz1,hz2⟩:=hzz
 go_enter Tryz.func31,Tryz.ntmps31
 go_wp2_with (go_at_call 53;refine(cc b l _ S h).mono ?_)
 rintro e w1 ⟨rfl,⟨v,hbk,hown,hne,hS,hz⟩,hg1,hsz1⟩;have c0:w1.cell? ⟨b,0,none⟩=some (.pointer (some ⟨b,0,none⟩)):=by rw[Lib.cell_of_heap hbk];rfl
 have c1:w1.cell? ⟨b,1,none⟩=some v:=by rw[Lib.cell_of_heap hbk];rfl
 go_wp2_with (at_builtin;refine Sw rfl _ _ 42 9 rfl tE i0 uS uT hi hz0 hz1 hz2 _ _ _ rfl hown s rfl hlen ?_)
 intro v' w2 hown' hgrow hv' hni;have hlt:b<w1.heap.size:=by
  rcases Nat.lt_or_ge b w1.heap.size with h'|h'
  ·exact h'
  ·simp[Array.getElem?_eq_none h']at hbk
 have hb2:w2.heap[b]?=some (.cells #[.pointer (some ⟨b,0,none⟩),v] tB (0,0)):=by
  rw[hgrow.block b hlt (λe=>hne e.symm)];exact hbk
 have d0:w2.cell? ⟨b,0,none⟩=some (.pointer (some ⟨b,0,none⟩)):=by rw[Lib.cell_of_heap hb2];rfl
 have d1:w2.cell? ⟨b,1,none⟩=some v:=by rw[Lib.cell_of_heap hb2];rfl
 have f1:w2.frozen? ⟨b,1,none⟩=false:=Lib.frozen_of_heap hb2 1;obtain⟨ao,n',cap,rfl⟩:∃ao n' cap,v'=.slice ao n' cap:=by
  rcases hown'.2 with⟨hv,_⟩|⟨g,cap,cur,hv,_⟩
  ·exact⟨_,_,_,hv⟩
  ·exact⟨_,_,_,hv⟩
 go_wp2
 go_ret2
 have hne':(Value.slice ao n' cap).ownBlock≠some b:=λe=>by
  rcases hv' b e with e|e
  ·exact hne e
  ·omega
 have hg3:w2.grownBy (w2.setCell ⟨b,1,none⟩ (.slice ao n' cap)) (some b):=⟨rfl,rfl,rfl,by simp[World.setCell],λk _ hk=>Below.heap_setCell _ _ _ _ (λe=>hk (by simp[e]))⟩;have hl:(l++s.data.toList).length=l.length+s.size:=by rw[gp,Array.length_toList];rfl
 have hc:Lib.byteCells (l++s.data.toList)=Lib.byteCells l++Lib.strCells s:=by unfold Lib.byteCells Lib.strCells;rw[me]
 refine⟨rfl,λk=>k=b∨(Value.slice ao n' cap).ownBlock=some k,⟨_,_,.inr rfl,by simp[World.setCell,Dp,hb2],?_,hne',λ_=>lF,λe=>?_⟩,?_,?_⟩
 ·rw[hl,hc];exact hown'.kept hg3 (.inr hne')
 ·obtain⟨e1,e2⟩:=List.append_eq_nil_iff.1 e;have e3:s.size=0:=by
   have:s.data.toList.length=0:=(by rw[e2];rfl);rw[Array.length_toList]at this;exact this
  exact hni.2 ⟨hz e1,by simpa using e3⟩
 ·rintro k (rfl|hk)
  ·exact .inl ((hS k).2 (.inl rfl))
  ·rcases hv' k hk with e|e
   ·exact .inl ((hS k).2 (.inr e))
   ·exact .inr e
 ·refine h.ext (hg3.os.trans (hgrow.os.trans hg1.os)) (hg3.tape.trans (hgrow.tape.trans hg1.tape)) (hg3.output.trans (hgrow.output.trans hg1.output)) (kW hg1.size (kW hgrow.size hg3.size)) λk hk hs=>?_;have k1:k≠b:=λe=>hs ((hS k).2 (.inl e));have k2:v.ownBlock≠some k:=λe=>hs ((hS k).2 (.inr e));have b1:=hg1.block k hk (λe=>k1 (lE e));have b2:=hgrow.block k (Aj hk hg1.size) (λe=>k2 e.symm);have b3:=hg3.block k (Aj hk (kW hg1.size hgrow.size)) (λe=>k1 (lE e));exact b3.trans (b2.trans b1)
theorem Wt(b p w)(hbk:w.heap[b]?=some (.cells #[p,.slice none 0 0] tB (0,0))):
  Calls Tryz.prog 35 #[.pointer (some ⟨b,0,none⟩)] w λe w'=>e=.returned (.string ⟨#[]⟩)∧w'=w.drew:=by
 have hUS:∀W q,(Builtin.unsafeString_ #[124,3] 9 #[.pointer q,.int .i64 0]).run Tryz.prog W=.ok (.string .empty) W:=λW q=>Lib.run_unsafeString_none W _ _ _ q;have c1:w.drew.cell? ⟨b,1,none⟩=some (.slice none 0 0):=by
  have:w.drew.heap[b]?=some (.cells #[p,.slice none 0 0] tB (0,0)):=hbk;rw[Lib.cell_of_heap this];rfl
 have hSD:(Builtin.unsafeSliceData_ #[42] 124 #[.slice none 0 0]).run Tryz.prog w.drew=.ok (.pointer none) w.drew:=rfl
 go_enter Tryz.func35,Tryz.ntmps35
 go_wp2
 go_region
 all_goals(go_wp2;go_ret;exact⟨rfl,rfl⟩)
theorem Sf(b g cap p cur l w)(h0:l≠[])(hbk:w.heap[b]?=some (.cells #[p,.slice (some ⟨g,0,none⟩) l.length cap] tB (0,0)))(hg:w.heap[g]?=some (.cells cur tE (0,0)))(hnc:l.length≤cap)(hcm:cap≤maxLen)(hcs:cur.size=cap*1)(hc:∀j u,(Lib.byteCells l)[j]?=some u→w.cell? ((⟨g,0,none⟩:Addr).add j)=some u):
  Calls Tryz.prog 35 #[.pointer (some ⟨b,0,none⟩)] w λe w'=>e=.returned (.string ⟨l.toArray⟩)∧w'=w.drew.freeze ⟨g,0,none⟩ l.length:=by
 have hl0:l.length≠0:=by simpa using h0
 have c1:w.drew.cell? ⟨b,1,none⟩=some (.slice (some ⟨g,0,none⟩) l.length cap):=by
  have:w.drew.heap[b]?=some (.cells #[p,.slice (some ⟨g,0,none⟩) l.length cap] tB (0,0)):=hbk;rw[Lib.cell_of_heap this];rfl
 have hSD:(Builtin.unsafeSliceData_ #[42] 124 #[.slice (some ⟨g,0,none⟩) l.length cap]).run Tryz.prog w.drew=.ok (.pointer (some ⟨g,0,none⟩)) w.drew:=
  Lib.run_unsafeSliceData_row _ _ _ _ _ _ (by omega)
 have hUS:(Builtin.unsafeString_ #[124,3] 9 #[.pointer (some ⟨g,0,none⟩),.int .i64 l.length]).run Tryz.prog w.drew=.ok (.string ⟨l.toArray⟩) (w.drew.freeze ⟨g,0,none⟩ l.length):=by
  refine Lib.run_unsafeString_row w.drew 124 3 9 tE (by kernel_rfl) (by kernel_rfl) g cur.size (by have hg':w.drew.heap[g]?=some (.cells cur tE (0,0)):=hg;simp[World.shape?,hg']) l h0 (by omega) (by unfold maxLen at hcm;omega) ?_;intro j x hx;exact hc j (.int .u8 x.toNat) (by simp[Lib.byteCells,hx])
 clear hc
 go_enter Tryz.func35,Tryz.ntmps35
 go_wp2
 go_region
 all_goals(go_wp2;go_ret;exact⟨rfl,rfl⟩)
theorem aar(b:Nat)(l:List UInt8)(w:World)(S:Nat→Prop)(h:At b l w S):Calls Tryz.prog 35 #[.pointer (some ⟨b,0,none⟩)] w λe w'=>e=.returned (.string ⟨l.toArray⟩)∧jq S w w':=by
 have h':=h;obtain⟨p,v,hp,hb,ho,hn,hS,hz⟩:=h;by_cases h0:l=[]
 ·rw[hz h0]at hb;refine(Wt b p w hb).mono ?_;rintro e w' ⟨rfl,rfl⟩;rw[h0];exact⟨rfl,h'.ext rfl rfl rfl (eE _) λ_ _ _=>rfl⟩
 ·rcases ho.2 with⟨_,hz0⟩|⟨g,cap,cur,rfl,_,hg,hnc,hcm,hcs,_⟩
  ·exact absurd (jE hz0) h0
  ·refine(Sf b g cap p cur l w h0 hb hg hnc hcm hcs (ho.cells (g:=g) rfl)).mono ?_;rintro e w' ⟨rfl,rfl⟩;have hbl:=Lib.below_freeze (Below.drew (Below.refl 0 w)) (p:=⟨g,0,none⟩) (gJ _) l.length;refine⟨rfl,h'.ext hbl.os hbl.tape hbl.output hbl.size λk hk hs=>?_⟩
   ·have:k≠g:=λe=>hs ((hS k).2 (.inr (by rw[e];rfl)));unfold World.freeze;split
    ·rfl
    ·show(Array.modify w.heap g _)[k]?=_;rw[Dp,ay (λe=>this e.symm)]
end YD

namespace Ju
open YD
def F7(b:Nat)(l:List UInt8):SP where
 h w S R:=At b l w S∧∀k,¬R k
 st:=by
  rintro w w' S R ⟨⟨p,v,hp,hb,ho,hn,hS,hz⟩,hR⟩ hw;refine⟨⟨p,v,hp,by rw[hw b (.inl ((hS b).2 (.inl rfl)))];exact hb,⟨ho.1,?_⟩,hn,hS,hz⟩,hR⟩;rcases ho.2 with h|⟨g,cap,cur,rfl,h1,h2,h3⟩
  ·exact .inl h
  ·exact .inr ⟨g,cap,cur,rfl,h1,by rw[hw g (.inl ((hS g).2 (.inr rfl)))];exact h2,h3⟩
 nd:=by
  rintro w S R k ⟨h,hR⟩ hk;rcases hk with hk|hk
  ·obtain⟨c,t,e⟩:=h.cells hk;exact⟨_,e,by simp[kU]⟩
  ·exact(hR k hk).elim
section
variable {w0 w:World} {S0 R0:Nat→Prop} {F:SP}
theorem Pk(h:au w0 S0 R0 w F)(k:∀b w',au w0 S0 R0 w' (F7 b []^F)→K b w'):Rv tB [.ptr none,.sl ⟨none,0,0⟩] K w:=
 λw' he hb _=>k _ w' (h.more he (B:=F7 w.heap.size []) (S':=λk=>k=w.heap.size) ⟨⟨.pointer none,.slice none 0 0,.inl rfl,hb,World.ownsRow_nil _ _ _ _,by simp[Value.ownBlock],λk=>by simp[Value.ownBlock],λ_=>rfl⟩,λ_ h=>h⟩ (λ_ hk=>by rw[hk];exact eE _))
end
theorem p_(he:Kg Tryz.prog f=true)(h:Calls Tryz.prog f args.toArray w λe w'=>∃v,e=.returned v∧R v w'):kD Tryz.prog f args w R:=
 .enters ⟨he,callsIn_wide.2 h⟩
theorem A8(b l s)(hl:l.length+s.size≤140737488355328):tT Tryz.prog de [.lf (.ptr (some ⟨b,0⟩)),.lf (.str s)] [.lf (.int .i64),.lf .PG] (F7 b l) (λ_=>F7 b (l++s.data.toList)):=by
 rintro w S R ⟨h,hR⟩;refine p_ (by kernel_rfl) ((ws b l s w S h hl).mono ?_);rintro e w' ⟨rfl,S',h1,h2,h3⟩;exact⟨_,rfl,((s.size:Int),()),rfl,h3,S',λ_=>False,⟨h1,λ_ h=>h⟩,h2,λ_ h=>h.elim⟩
theorem O3(b l):tT Tryz.prog ii [.lf (.ptr (some ⟨b,0⟩))] [.lf .str] (F7 b l) (λr=>bs (r=⟨l.toArray⟩) bg):=by
 rintro w S R ⟨h,hR⟩;refine p_ (by kernel_rfl) ((aar b l w S h).mono ?_);rintro e w' ⟨rfl,h3⟩;exact⟨_,rfl,⟨l.toArray⟩,rfl,h3,λ_=>False,λ_=>False,⟨rfl,λ_ h=>h,λ_ h=>h⟩,λ_ h=>h.elim,λ_ h=>h.elim⟩
def Yf:Array Value:=(Lib.pow10Tab.map λz=>Value.int .u64 z).toArray
def tab:SP where
 h w S R:=(∃T fr,w.heap[0]?=some (.cells Yf T fr))∧(∀k,¬S k)∧∀k,R k↔k=0
 st:=by
  rintro w w' S R ⟨⟨T,fr,h⟩,hS,hR⟩ hw;exact⟨⟨T,fr,by rw[hw _ (.inr ((hR _).2 rfl))];exact h⟩,hS,hR⟩
 nd:=by
  rintro w S R k ⟨⟨T,fr,h⟩,hS,hR⟩ hk;rcases hk with hk|hk
  ·exact(hS k hk).elim
  ·rw[(hR k).1 hk];exact⟨_,h,by simp[kU]⟩
theorem O4(h:tab.h w S R): Lib.TabIs Tryz.prog w "internal/strconv.uint64pow10" .u64 Lib.pow10Tab := by
 obtain⟨⟨T,fr,h⟩,_⟩:=h;have hg : Tryz.prog.globalNamed "internal/strconv.uint64pow10" = some 0 := by kernel_rfl
 simp[Lib.TabIs,World.var?,hg,h,Yf]
end Ju

namespace Gc
open Go.Shelf Go.Lib Go.RowKit Go.Sort
def E3:Go.Shelf.Ren:=⟨λ|283=>83|n=>n,λ|3=>3|9=>9|4=>4|n=>n,λ|n=>n⟩
theorem Rh:Go.Proofs.Lays.n283 Tryz.prog E3:={
 mixed:=by kernel_rfl
 f283:=Tryz.func83.trans (c_ some (by kernel_rfl))
 t3:=Tryz.underlying3
 a3:=Tryz.isAgg3
 z3:=Tryz.sizeOf3
 v3:=Tryz.zeroValue3
 t4:=Tryz.underlying4
 a4:=Tryz.isAgg4
 z4:=Tryz.sizeOf4
 v4:=Tryz.zeroValue4
 t9:=Tryz.underlying9
 a9:=Tryz.isAgg9
 z9:=Tryz.sizeOf9
 v9:=Tryz.zeroValue9}
theorem internal_strconv_small(i:Nat)(h:i<100)(w:World):
  Calls Tryz.prog 83 #[.int .i64 i] w λe w'=>e=.returned (.string ⟨(Lib.decDigits i).toArray⟩)∧w'=w:=Any.internal_strconv_small Rh i h w
def C2:Go.Shelf.Ren:=⟨λ|284=>84|129=>136|317=>135|318=>137|n=>n,λ|53=>22|3=>3|212=>250|0=>0|4=>4|46=>48|5=>5|9=>9|n=>n,λ|17=>0|n=>n⟩
theorem Na:Go.Proofs.LaysM.n284 Tryz.prog C2:={
 mixed:=by kernel_rfl
 f129:=Tryz.func136.trans (c_ some (by kernel_rfl))
 f284:=Tryz.func84.trans (c_ some (by kernel_rfl))
 f317:=Tryz.func135.trans (c_ some (by kernel_rfl))
 f318:=Tryz.func137.trans (c_ some (by kernel_rfl))
 t0:=Tryz.underlying0
 a0:=Tryz.isAgg0
 z0:=Tryz.sizeOf0
 v0:=Tryz.zeroValue0
 t3:=Tryz.underlying3
 a3:=Tryz.isAgg3
 z3:=Tryz.sizeOf3
 v3:=Tryz.zeroValue3
 t4:=Tryz.underlying4
 a4:=Tryz.isAgg4
 z4:=Tryz.sizeOf4
 v4:=Tryz.zeroValue4
 t5:=Tryz.underlying5
 a5:=Tryz.isAgg5
 z5:=Tryz.sizeOf5
 v5:=Tryz.zeroValue5
 t9:=Tryz.underlying9
 a9:=Tryz.isAgg9
 z9:=Tryz.sizeOf9
 v9:=Tryz.zeroValue9
 t46:=Tryz.underlying48
 a46:=Tryz.isAgg48
 z46:=Tryz.sizeOf48
 v46:=Tryz.zeroValue48
 t53:=Tryz.underlying22
 a53:=Tryz.isAgg22
 z53:=Tryz.sizeOf22
 v53:=Tryz.zeroValue22
 t212:=Tryz.underlying250
 a212:=Tryz.isAgg250
 z212:=Tryz.sizeOf250
 v212:=Tryz.zeroValue250
 g17:=by kernel_rfl
 i0:=by kernel_rfl
 i3:=by kernel_rfl
 i4:=by kernel_rfl
 i5:=by kernel_rfl
 i9:=by kernel_rfl
 i46:=by kernel_rfl
 i53:=by kernel_rfl
 i212:=by kernel_rfl
 m17:=by kernel_rfl}
theorem internal_strconv_numDigits(u : Nat)(h1 : 1 ≤ u)(h2 : u < 18446744073709551616)(w : World)(htab : Lib.TabIs Tryz.prog w "internal/strconv.uint64pow10" .u64 Lib.pow10Tab):
  Calls Tryz.prog 84 #[.int .u64 u] w λe w'=>e=.returned (.int .i64 (Lib.nDigits u))∧w'=w:=Any.internal_strconv_numDigits Na u h1 h2 w htab
def E4:Go.Shelf.Ren:=⟨λ|285=>85|n=>n,λ|37=>42|53=>22|3=>3|4=>4|51=>251|9=>9|5=>5|0=>0|n=>n,λ|n=>n⟩
theorem Ri:Go.Proofs.Lays.n285 Tryz.prog E4:={
 mixed:=by kernel_rfl
 f285:=Tryz.func85.trans (c_ some (by kernel_rfl))
 t0:=Tryz.underlying0
 a0:=Tryz.isAgg0
 z0:=Tryz.sizeOf0
 v0:=Tryz.zeroValue0
 t3:=Tryz.underlying3
 a3:=Tryz.isAgg3
 z3:=Tryz.sizeOf3
 v3:=Tryz.zeroValue3
 t4:=Tryz.underlying4
 a4:=Tryz.isAgg4
 z4:=Tryz.sizeOf4
 v4:=Tryz.zeroValue4
 t5:=Tryz.underlying5
 a5:=Tryz.isAgg5
 z5:=Tryz.sizeOf5
 v5:=Tryz.zeroValue5
 t9:=Tryz.underlying9
 a9:=Tryz.isAgg9
 z9:=Tryz.sizeOf9
 v9:=Tryz.zeroValue9
 t37:=Tryz.underlying42
 a37:=Tryz.isAgg42
 z37:=Tryz.sizeOf42
 v37:=Tryz.zeroValue42
 t51:=Tryz.underlying251
 a51:=Tryz.isAgg251
 z51:=Tryz.sizeOf251
 v51:=Tryz.zeroValue251
 t53:=Tryz.underlying22
 a53:=Tryz.isAgg22
 z53:=Tryz.sizeOf22
 v53:=Tryz.zeroValue22}
theorem internal_strconv_formatBase10(af off cap:Nat)(u:Nat)(d:Array UInt8)(w:World)(hH:_root_.Go.Sort.Holds (λ(b:UInt8)=>Value.int .u8 (b.toNat:Int)) w af off d)(hu:u<10^d.size)(hu64:u<18446744073709551616)(hsz:d.size<4611686018427387904):
  Calls Tryz.prog 85 #[.slice (some ⟨af,off,none⟩) d.size cap,.int .u64 u] w λe w'=>
   e=.returned (.tuple #[])∧∃(n v':Nat) (dk:Array UInt8),w'=(putRow (λ(b:UInt8)=>Value.int .u8 (b.toNat:Int)) w af off dk).drewN n∧FmtInv d.size u 0 v' dk:=Any.internal_strconv_formatBase10 Ri af off cap u d w hH hu hu64 hsz
def C1:Go.Shelf.Ren:=⟨λ|171=>54|243=>82|246=>134|283=>83|284=>84|285=>85|286=>86|129=>136|317=>135|318=>137|319=>138|320=>139|337=>205|338=>206|n=>n,λ|3=>3|9=>9|2=>2|4=>4|171=>181|0=>0|53=>22|37=>42|5=>5|173=>184|212=>250|51=>251|20=>20|213=>252|46=>48|232=>368|233=>369|n=>n,λ|17=>0|18=>1|19=>2|n=>n⟩
theorem M_:Go.Proofs.LaysM.n171 Tryz.prog C1:={
 mixed:=by kernel_rfl
 f129:=Tryz.func136.trans (c_ some (by kernel_rfl))
 f171:=Tryz.func54.trans (c_ some (by kernel_rfl))
 f243:=Tryz.func82.trans (c_ some (by kernel_rfl))
 f246:=Tryz.func134.trans (c_ some (by kernel_rfl))
 f283:=Tryz.func83.trans (c_ some (by kernel_rfl))
 f284:=Tryz.func84.trans (c_ some (by kernel_rfl))
 f285:=Tryz.func85.trans (c_ some (by kernel_rfl))
 f286:=Tryz.func86.trans (c_ some (by kernel_rfl))
 f317:=Tryz.func135.trans (c_ some (by kernel_rfl))
 f318:=Tryz.func137.trans (c_ some (by kernel_rfl))
 f319:=Tryz.func138.trans (c_ some (by kernel_rfl))
 f320:=Tryz.func139.trans (c_ some (by kernel_rfl))
 f337:=Tryz.func205.trans (c_ some (by kernel_rfl))
 f338:=Tryz.func206.trans (c_ some (by kernel_rfl))
 t0:=Tryz.underlying0
 a0:=Tryz.isAgg0
 z0:=Tryz.sizeOf0
 v0:=Tryz.zeroValue0
 t2:=Tryz.underlying2
 a2:=Tryz.isAgg2
 z2:=Tryz.sizeOf2
 v2:=Tryz.zeroValue2
 t3:=Tryz.underlying3
 a3:=Tryz.isAgg3
 z3:=Tryz.sizeOf3
 v3:=Tryz.zeroValue3
 t4:=Tryz.underlying4
 a4:=Tryz.isAgg4
 z4:=Tryz.sizeOf4
 v4:=Tryz.zeroValue4
 t5:=Tryz.underlying5
 a5:=Tryz.isAgg5
 z5:=Tryz.sizeOf5
 v5:=Tryz.zeroValue5
 t9:=Tryz.underlying9
 a9:=Tryz.isAgg9
 z9:=Tryz.sizeOf9
 v9:=Tryz.zeroValue9
 t20:=Tryz.underlying20
 a20:=Tryz.isAgg20
 z20:=Tryz.sizeOf20
 v20:=Tryz.zeroValue20
 t37:=Tryz.underlying42
 a37:=Tryz.isAgg42
 z37:=Tryz.sizeOf42
 v37:=Tryz.zeroValue42
 t46:=Tryz.underlying48
 a46:=Tryz.isAgg48
 z46:=Tryz.sizeOf48
 v46:=Tryz.zeroValue48
 t51:=Tryz.underlying251
 a51:=Tryz.isAgg251
 z51:=Tryz.sizeOf251
 v51:=Tryz.zeroValue251
 t53:=Tryz.underlying22
 a53:=Tryz.isAgg22
 z53:=Tryz.sizeOf22
 v53:=Tryz.zeroValue22
 t171:=Tryz.underlying181
 a171:=Tryz.isAgg181
 z171:=Tryz.sizeOf181
 v171:=Tryz.zeroValue181
 t173:=Tryz.underlying184
 a173:=Tryz.isAgg184
 z173:=Tryz.sizeOf184
 v173:=Tryz.zeroValue184
 t212:=Tryz.underlying250
 a212:=Tryz.isAgg250
 z212:=Tryz.sizeOf250
 v212:=Tryz.zeroValue250
 t213:=Tryz.underlying252
 a213:=Tryz.isAgg252
 z213:=Tryz.sizeOf252
 t232:=Tryz.underlying368
 a232:=Tryz.isAgg368
 z232:=Tryz.sizeOf368
 v232:=Tryz.zeroValue368
 t233:=Tryz.underlying369
 a233:=Tryz.isAgg369
 z233:=Tryz.sizeOf369
 v233:=Tryz.zeroValue369
 g17:=by kernel_rfl
 g18:=by kernel_rfl
 g19:=by kernel_rfl
 i0:=by kernel_rfl
 i2:=by kernel_rfl
 i3:=by kernel_rfl
 i4:=by kernel_rfl
 i5:=by kernel_rfl
 i9:=by kernel_rfl
 i20:=by kernel_rfl
 i37:=by kernel_rfl
 i46:=by kernel_rfl
 i51:=by kernel_rfl
 i53:=by kernel_rfl
 i171:=by kernel_rfl
 i173:=by kernel_rfl
 i212:=by kernel_rfl
 i232:=by kernel_rfl
 i233:=by kernel_rfl
 m17:=by kernel_rfl
 m18:=by kernel_rfl
 m19:=by kernel_rfl}
theorem strconv_Itoa(n:Int)(h0:-9223372036854775808≤n)(h1:n≤9223372036854775807)(w)(htab : Lib.TabIs Tryz.prog w "internal/strconv.uint64pow10" .u64 Lib.pow10Tab):
  Calls Tryz.prog 54 #[.int .i64 n] w λe w'=>e=.returned (.string ⟨(Lib.itoa n).toArray⟩)∧∃k os,w'=grow (w.drewN k) os:=Any.strconv_Itoa M_ n h0 h1 w htab
def E2:Go.Shelf.Ren:=⟨λ|171=>54|243=>82|246=>134|283=>83|284=>84|285=>85|286=>86|129=>136|317=>135|318=>137|319=>138|320=>139|337=>205|338=>206|n=>n,λ|3=>3|9=>9|2=>2|4=>4|171=>181|0=>0|53=>22|37=>42|5=>5|173=>184|212=>250|51=>251|20=>20|213=>252|46=>48|232=>368|233=>369|n=>n,λ|17=>0|18=>1|19=>2|n=>n⟩
theorem Rg:Go.Proofs.Lays.n171 Tryz.prog E2:={
 mixed:=by kernel_rfl
 f129:=Tryz.func136.trans (c_ some (by kernel_rfl))
 f171:=Tryz.func54.trans (c_ some (by kernel_rfl))
 f243:=Tryz.func82.trans (c_ some (by kernel_rfl))
 f246:=Tryz.func134.trans (c_ some (by kernel_rfl))
 f283:=Tryz.func83.trans (c_ some (by kernel_rfl))
 f284:=Tryz.func84.trans (c_ some (by kernel_rfl))
 f285:=Tryz.func85.trans (c_ some (by kernel_rfl))
 f286:=Tryz.func86.trans (c_ some (by kernel_rfl))
 f317:=Tryz.func135.trans (c_ some (by kernel_rfl))
 f318:=Tryz.func137.trans (c_ some (by kernel_rfl))
 f319:=Tryz.func138.trans (c_ some (by kernel_rfl))
 f320:=Tryz.func139.trans (c_ some (by kernel_rfl))
 f337:=Tryz.func205.trans (c_ some (by kernel_rfl))
 f338:=Tryz.func206.trans (c_ some (by kernel_rfl))
 t0:=Tryz.underlying0
 a0:=Tryz.isAgg0
 z0:=Tryz.sizeOf0
 v0:=Tryz.zeroValue0
 t2:=Tryz.underlying2
 a2:=Tryz.isAgg2
 z2:=Tryz.sizeOf2
 v2:=Tryz.zeroValue2
 t3:=Tryz.underlying3
 a3:=Tryz.isAgg3
 z3:=Tryz.sizeOf3
 v3:=Tryz.zeroValue3
 t4:=Tryz.underlying4
 a4:=Tryz.isAgg4
 z4:=Tryz.sizeOf4
 v4:=Tryz.zeroValue4
 t5:=Tryz.underlying5
 a5:=Tryz.isAgg5
 z5:=Tryz.sizeOf5
 v5:=Tryz.zeroValue5
 t9:=Tryz.underlying9
 a9:=Tryz.isAgg9
 z9:=Tryz.sizeOf9
 v9:=Tryz.zeroValue9
 t20:=Tryz.underlying20
 a20:=Tryz.isAgg20
 z20:=Tryz.sizeOf20
 v20:=Tryz.zeroValue20
 t37:=Tryz.underlying42
 a37:=Tryz.isAgg42
 z37:=Tryz.sizeOf42
 v37:=Tryz.zeroValue42
 t46:=Tryz.underlying48
 a46:=Tryz.isAgg48
 z46:=Tryz.sizeOf48
 v46:=Tryz.zeroValue48
 t51:=Tryz.underlying251
 a51:=Tryz.isAgg251
 z51:=Tryz.sizeOf251
 v51:=Tryz.zeroValue251
 t53:=Tryz.underlying22
 a53:=Tryz.isAgg22
 z53:=Tryz.sizeOf22
 v53:=Tryz.zeroValue22
 t171:=Tryz.underlying181
 a171:=Tryz.isAgg181
 z171:=Tryz.sizeOf181
 v171:=Tryz.zeroValue181
 t173:=Tryz.underlying184
 a173:=Tryz.isAgg184
 z173:=Tryz.sizeOf184
 v173:=Tryz.zeroValue184
 t212:=Tryz.underlying250
 a212:=Tryz.isAgg250
 z212:=Tryz.sizeOf250
 v212:=Tryz.zeroValue250
 t213:=Tryz.underlying252
 a213:=Tryz.isAgg252
 z213:=Tryz.sizeOf252
 t232:=Tryz.underlying368
 a232:=Tryz.isAgg368
 z232:=Tryz.sizeOf368
 v232:=Tryz.zeroValue368
 t233:=Tryz.underlying369
 a233:=Tryz.isAgg369
 z233:=Tryz.sizeOf369
 v233:=Tryz.zeroValue369
 g17:=by kernel_rfl
 g18:=by kernel_rfl
 g19:=by kernel_rfl}
theorem strconv_Itoa_small(i:Nat)(hi:i<100)(w:World):
  Calls Tryz.prog 54 #[.int .i64 i] w λe w'=>e=.returned (.string ⟨(Lib.decDigits i).toArray⟩)∧w'=w:=Any.strconv_Itoa_small Rg i hi w
end Gc

namespace Gd
open Gc Go.Lib Go.Sort Go.RowKit YD Ju
abbrev tA:TypeId:=181
abbrev XV:UInt8→Value:=λb=>.int .u8 (b.toNat:Int)
theorem VW(w:World)(T:TypeId)(n:Nat)(h:n≤24):_root_.Go.Sort.Holds XV (w.alloc (.cells zeros24 T)) w.heap.size 0 (Array.replicate n (0:UInt8)):=λj hj=>by
 rw[Ad]at hj;refine⟨?_,World.frozen?_alloc_new _ _ _ _⟩;rw[nP,World.cell?_alloc_new,zeros24_at j (by omega)];simp[XV,hj]
set_option maxHeartbeats 3200000 in
set_option maxRecDepth 100000 in
theorem VV(u : Nat)(h1 : 100 ≤ u)(h2 : u < 18446744073709551616)(w : World)(htab : TabIs Tryz.prog w "internal/strconv.uint64pow10" .u64 pow10Tab):
  Calls Tryz.prog 55 #[.int .u64 u,.int .i64 10] w λe w'=>e=.returned (.string ⟨(decDigits u).toArray⟩)∧∃k os,w'=grow (w.drewN k) os:=by
 have hnd20:nDigits u≤20:=by have:=numDigits_eq u (by omega) h2;split at this<;>omega
 have hal:Tryz.prog.arrayLen tA=24:=by kernel_rfl
 have hsl:∀W,(Instr.sliceAt tA (.pointer (some ⟨w.heap.size,0,none⟩)) none (some (.int .i64 (nDigits u:Int))) none).run Tryz.prog W=.ok (.slice (some ⟨w.heap.size,0,none⟩) (nDigits u) 24) W:=λW=>by
  rw[run_sliceAt_array_h W tA ⟨w.heap.size,0,none⟩ (by kernel_rfl) .i64 (nDigits u:Int) (by omega) (by rw[hal];omega)];rw[hal]
  rfl
 have hH0:=VW w tA (nDigits u) (by omega);have hfmt:=internal_strconv_formatBase10 w.heap.size 0 24 u (Array.replicate (nDigits u) 0) (w.alloc (.cells zeros24 tA)) hH0 (by rw[Ad];exact lt_pow_nDigits u) h2 (by rw[Ad];omega);rw[Ad]at hfmt;have HH0:=hid hH0;clear hH0 hal
 go_enter Tryz.func55,Tryz.ntmps55
 go_wp2_with (first
  |(go_at_call 84;refine(internal_strconv_numDigits u (by omega) h2 _ (tabIs_alloc htab _)).mono ?_;rintro e w' ⟨rfl,rfl⟩))
 go_at_call 85
 refine hfmt.mono ?_;rintro e w' ⟨rfl,k,v',dk,rfl,hF⟩;have hcv:(convert 42 9 (.slice (some ⟨w.heap.size,0,none⟩) (nDigits u) 24)).run Tryz.prog ((putRow (λ(b:UInt8)=>Value.int .u8 (b.toNat:Int)) (w.alloc (.cells zeros24 tA)) w.heap.size 0 dk).drewN k)=.ok (.string ⟨(decDigits u).toArray⟩) ((putRow (λ(b:UInt8)=>Value.int .u8 (b.toNat:Int)) (w.alloc (.cells zeros24 tA)) w.heap.size 0 dk).drewN k):=by
  have h:=Hc (P:=Tryz.prog) ((putRow XV (w.alloc (.cells zeros24 tA)) w.heap.size 0 dk).drewN k) 42 9 5 ⟨w.heap.size,0,none⟩ 24 (decDigits u) (by kernel_rfl) (by kernel_rfl) (by kernel_rfl) (λj hj=>by
   rw[row_is_numeral hF j hj,add_plain,World.cell?_drewN];exact cell?_putRow XV _ w.heap.size 0 _ dk HH0.out (by rw[hF.size,Ad]) j (by rw[hF.size];rw[decDigits_length]at hj;exact hj))
  rw[decDigits_length]at h;exact h
 go_wp2
 go_ret
 refine⟨rfl,k,?_⟩;rw[alloc_eq_grow];obtain⟨os',_,e⟩:=putRow_grow_new XV w #[.cells zeros24 tA] w.heap.size 0 dk (eE _);exact⟨os',by rw[e];rfl⟩
theorem MQ(u:Nat)(h1:u<100)(w:World):Calls Tryz.prog 55 #[.int .u64 u,.int .i64 10] w λe w'=>e=.returned (.string ⟨(decDigits u).toArray⟩)∧w'=w:=by
 go_enter Tryz.func55,Tryz.ntmps55
 go_wp2_with (go_at_call 83;refine(internal_strconv_small u h1 _).mono ?_;rintro e w' ⟨rfl,rfl⟩)
 go_ret
 exact⟨rfl,rfl⟩
theorem VT(u : Nat)(h1 : 100 ≤ u)(h2 : u < 18446744073709551616)(w : World)(htab : TabIs Tryz.prog w "internal/strconv.uint64pow10" .u64 pow10Tab):
  Calls Tryz.prog 34 #[.int .u64 u,.int .i64 10] w λe w'=>e=.returned (.string ⟨(decDigits u).toArray⟩)∧∃k os,w'=grow (w.drewN k) os:=by
 go_enter Tryz.func34,Tryz.ntmps34
 go_wp2_with (go_at_call 55;refine(VV u h1 h2 _ htab).mono ?_;rintro e w' ⟨rfl,k,os,rfl⟩)
 go_ret
 exact⟨rfl,k,os,rfl⟩
theorem MO(u:Nat)(h1:u<100)(w:World):Calls Tryz.prog 34 #[.int .u64 u,.int .i64 10] w λe w'=>e=.returned (.string ⟨(decDigits u).toArray⟩)∧w'=w:=by
 go_enter Tryz.func34,Tryz.ntmps34
 go_wp2_with (go_at_call 55;refine(MQ u h1 _).mono ?_;rintro e w' ⟨rfl,rfl⟩)
 go_ret
 exact⟨rfl,rfl⟩
def QY(n:Int):ByteArray:=⟨(decDigits n.toNat).toArray⟩
theorem EQ(w k os):jq Db w (grow (w.drewN k) os):=by
 have hs:(grow (w.drewN k) os).heap=w.heap++os:=rfl;have hk:∀i,i<w.heap.size→(grow (w.drewN k) os).heap[i]?=w.heap[i]?:=λi hi=>by rw[hs,N1 hi]
 exact⟨rfl,rfl,rfl,by rw[hs,Array.size_append];omega,λi hi _=>hk i hi,λi hi=>by rw[hk i (pk.1 hi).1];exact hi⟩
def mw(big:Bool):SP:=cond big tab bg
theorem Wu(h:(mw big).h w S R):∀k,¬S k:=by
 cases big
 ·exact h.1
 ·exact h.2.1
instance X8(big:Bool)(F G:SP)[t:Take (mw big) F G]:oF (mw big) F:=⟨λw S R h=>by
 obtain⟨S1,R1,S2,R2,h1,_,_,hR,_⟩:=t.le w S R h;have:S1=λ_=>False:=funext λk=>propext ⟨λhk=>Wu h1 k hk,λhk=>hk.elim⟩;exact⟨R1,this▸h1,λk hk=>.inr ((hR k).2 (.inl hk))⟩⟩
theorem yB(hp:p)(he:jq Db w w'):au w S R w' (bs p bg):=
 ⟨he.mono λ_ _ h=>h.elim,λ_=>False,λ_=>False,⟨hp,λ_ h=>h,λ_ h=>h⟩,λ_ h=>h.elim,λ_ h=>h.elim⟩
theorem MZ(big)(n:Int)(h0:0≤n)(h1:n<9223372036854775808)(hb:big=false→n<100):tT Tryz.prog rQ [.lf (.int .i64 n)] [.lf .str] (bg^mw big) (λr=>bs (r=QY n) bg):=by
 rintro w S' R' ⟨_,_,S,R,_,h,_⟩;obtain⟨u,rfl⟩:∃u:Nat,n=u:=⟨n.toNat,by omega⟩;have e:QY (u:Int)=⟨(decDigits u).toArray⟩:=by unfold QY;rw[eX]
 cases big with
 |false=>
  have hb:=hb rfl;refine p_ (by kernel_rfl) ((strconv_Itoa_small u (by omega) w).mono ?_);rintro e' w' ⟨rfl,rfl⟩;exact⟨_,rfl,⟨(decDigits u).toArray⟩,rfl,yB e.symm (jq.refl _ _)⟩
 |true=>
  refine p_ (by kernel_rfl) ((strconv_Itoa u (by omega) (by omega) w (O4 h)).mono ?_);rintro e' w' ⟨rfl,k,os,rfl⟩;rw[itoa_nonneg];exact⟨_,rfl,⟨(decDigits u).toArray⟩,rfl,yB e.symm (EQ w k os)⟩
theorem ET(big)(n:Int)(h0:0≤n)(h1:n<18446744073709551616)(hb:big=false→n<100):tT Tryz.prog jR [.lf (.int .u64 n),.lf (.int .i64 10)] [.lf .str] (bg^mw big) (λr=>bs (r=QY n) bg):=by
 rintro w S' R' ⟨_,_,S,R,_,h,_⟩;obtain⟨u,rfl⟩:∃u:Nat,n=u:=⟨n.toNat,by omega⟩;have e:QY (u:Int)=⟨(decDigits u).toArray⟩:=by unfold QY;rw[eX]
 by_cases hu:u<100
 ·refine p_ (by kernel_rfl) ((MO u hu w).mono ?_);rintro e' w' ⟨rfl,rfl⟩;exact⟨_,rfl,⟨(decDigits u).toArray⟩,rfl,yB e.symm (jq.refl _ _)⟩
 ·cases big with
  |false=>have:=hb rfl;omega
  |true=>
   refine p_ (by kernel_rfl) ((VT u (by omega) (by omega) w (O4 h)).mono ?_);rintro e' w' ⟨rfl,k,os,rfl⟩;exact⟨_,rfl,⟨(decDigits u).toArray⟩,rfl,yB e.symm (EQ w k os)⟩
theorem uC(big)(v:Int)(h1:v<9223372036854775808)(hb:big=false→v<100):bu (XM v) (bg^mw big) (λr=>bs (r=QY v) bg):=
 bC λw0 S R h=>by
  have e:(if(0:Int)>v then(0:Int)else v)=(v.toNat:Int):=by split<;>omega
  rw[e];refine bP (A:=bg) (Q:=mw big) (MZ big (v.toNat:Int) (by omega) (by omega) (λhh=>by have:=hb hh;omega)) h λr w h=>?_;obtain⟨hr,h⟩:=h.aP;refine au.aH ?_ h.gm;rw[hr];unfold QY;rw[eX]
end Gd

namespace YH
open PN Lx Ju Gd
theorem zj(n:Int):QY n=bA (dg n):=rfl
theorem mx:i64.max=9223372036854775807:=rfl
theorem sH(h:a.length+b.length≤1000000000000)(k:A w):eA ((((bA a).size+(bA b).size:Nat):Int)≤i64.max) A w:=by
 refine⟨?_,k⟩;rw[qG,qG,mx];omega
theorem Ey(b l m):F7 b (l++(bA m).data.toList)=F7 b (l++m):=rfl
end YH

namespace Zg
open PN Lx Ju Gd YH
abbrev KS:Ks:=[.int .i64,.int .u64,.int .i64,.int .u64,.bool]
abbrev zS:List Lf:=[aE 0,aB 0,aE 0,aB 0,bc false]
theorem l32:(⟨#[32]⟩:ByteArray)=bA [32]:=rfl
theorem l58:(⟨#[58]⟩:ByteArray)=bA [58]:=rfl
theorem l10:(⟨#[10]⟩:ByteArray)=bA [10]:=rfl
theorem l43:(⟨#[43]⟩:ByteArray)=bA [43]:=rfl
theorem l45:(⟨#[45]⟩:ByteArray)=bA [45]:=rfl
theorem X6:(⟨#[32,64]⟩:ByteArray)=bA [32,64]:=rfl
structure Y_(s:Sg):Prop where
 a:s.1<100
 b:s.2.1<100
 c:s.2.2.1<100
theorem FU(big sg)(hsg:sg.length≤1)(l xs)(hx:∀s∈xs,oi s)(hl:xs.length≤100000)(hb:big=false→∀s∈xs,Y_ s):
  bu (YP (bA sg) l) (bg^mw big^aV l KS xs) (λr=>bs (r=bA (tD (32::sg) xs)) bg):=
 bC λw0 S R h=>by
  rw[l32,l58];have hll:=((h.take (aV l KS xs)).rd (s:=l)).2;refine Pk h λn1 w h=>?_;have h:au w0 S R w (F7 n1 (tD (32::sg) (xs.take (0:Int).toNat))^mw big^aV l KS xs):=au.aI (A:=F7 n1 []^mw big^aV l KS xs) h;refine cS (λy:Int=>F7 n1 (tD (32::sg) (xs.take y.toNat))^mw big^aV l KS xs) (λy:Int=>0≤y∧y≤xs.length) (λy:Int=>xs.length-y.toNat) h ⟨gQ 0,by omega⟩ ?_;rintro(i:Int) w ⟨h0,h1⟩ h;refine ae (λc=>?_) λc=>?_
  ·have c:i<((l.len:Nat):Int):=bV c;have hi:i.toNat<xs.length:=(by omega);obtain⟨s,hs⟩:∃s,xs[i.toNat]?=some s:=⟨_,bK hi⟩;have hm:=gI hs;have ok:=hx s hm;have fw:=λe=>hb e s hm;have d1:=pE (n:=s.1) (by have:=ok.k;omega);have d2:=pE ok.f.2;have d3:=pE (n:=s.2.2.1) (by have:=ok.n;omega);have hlen:=tF (sign:=32::sg) (by simp only[gg];omega) (l:=xs.take i.toNat) (λq hq=>hx q (Af hq));rw[fO]at hlen;have e:(i+1).toNat=i.toNat+1:=(by omega);have hsg':(32::sg).length≤2:=(by simp only[gg];omega);refine bS (s:=l) (h.take (aV l KS xs)) h0 hi (dP (h.take (aV l KS xs)) l i.toNat hs rfl (aD h λn6 w h=>az h (by rfl) λw h=>aM h λw h=>?_));refine sH (by simp only[mc];omega) (ah (x:=s.1) h rfl (ah (x:=s.2.1) h rfl (ah (x:=s.2.2.1) h rfl ?_)));rw[rV];refine bP (A:=bg) (Q:=mw big) (uC big s.1 ok.k (λe=>(fw e).a)) h λr w h=>?_;obtain⟨hr,h⟩:=h.aP;rw[hr,zj];refine aN h rfl (aN h rfl ?_);rw[rV,rV];refine sH (by simp only[gp,gg,kb];omega) (sH (by simp only[gp,gg,kb];omega) ?_);refine bP (A:=bg) (Q:=mw big) (ET big s.2.1 ok.f.1 ok.f.2 (λe=>(fw e).b)) h λr w h=>?_;obtain⟨hr,h⟩:=h.aP;rw[hr,zj];refine aN h rfl ?_;rw[rV,rV];refine sH (by simp only[gp,gg,kb];omega) (sH (by simp only[gp,gg,kb];omega) ?_);refine bP (A:=bg) (Q:=mw big) (uC big s.2.2.1 ok.n (λe=>(fw e).c)) h λr w h=>?_;obtain⟨hr,h⟩:=h.aP;rw[hr,zj];rw[rV];refine sH (by simp only[gp,gg,kb];omega) ?_;have et:[32]++sg++dg s.1++[58]++dg s.2.1++[58]++dg s.2.2.1=(32::sg)++R8 s:=(by unfold R8;simp[jF]);rw[et];have hT:=Jc ok;refine ar (A8 n1 (tD (32::sg) (xs.take i.toNat)) (bA ((32::sg)++R8 s)) (by rw[qG,gp];omega)) h λ_ w h=>?_;rw[Ey]at h;have h:au w0 S R w (F7 n1 (tD (32::sg) (xs.take i.toNat)++((32::sg)++R8 s))^mw big^aV l KS xs):=h.aI;rw[←OW hs,←e]at h;rw[gi (n:=i+1)];exact⟨⟨⟨by omega,by omega⟩,h⟩,by omega⟩
  ·have c:¬i<((l.len:Nat):Int):=bY c;have e:xs.take i.toNat=xs:=jZ (by omega);rw[e]at h;refine ar (O3 n1 (tD (32::sg) xs)) h λr w h=>?_;obtain⟨hr,h⟩:=h.aP;exact au.aH hr h.gm
end Zg

namespace Lw
open PN Lx Ju Gd YH Zg
abbrev fm:Ks:=[.sl,.sl,.sl,.int .u64]
abbrev KI:Ks:=[.int .i64]
abbrev OT:=Ks.T fm×List Sg×List Sg
def tn(p:OT):Ot:=(p.2.1,p.2.2,p.1.2.2.2)
def zT(p:OT):SP:=aV p.1.1 KS p.2.1^aV p.1.2.1 KS p.2.2
def I3(o:Sl)(os:List OT):SP:=aV o fm (os.map Prod.fst)^rl zT os
theorem Wi{os:List OT}{i:Nat}{p:OT}(h:os[i]?=some p):Rd p.1.1 (rl zT os) KS p.2.1:=x4 h (by unfold zT;infer_instance)
theorem Wj{os:List OT}{i:Nat}{p:OT}(h:os[i]?=some p):Rd p.1.2.1 (rl zT os) KS p.2.2:=x4 h (by unfold zT;infer_instance)
structure Za(o:Ot):Prop where
 a:∀s∈o.1,Y_ s
 b:∀s∈o.2.1,Y_ s
 w:o.2.2<100
theorem O6(big o e os)(es:List Int)(ho:∀p∈os,Xp (tn p))(he:∀x∈es,x<9223372036854775808)(hl:es.length≤1000)(hb:big=false→(∀p∈os,Za (tn p))∧∀x∈es,x<100):
  bu (Zw o e) (bg^mw big^I3 o os^aV e KI es) (λr=>bs (r=bA (txF (os.map tn) es)) bg):=
 bC λw0 S R h=>by
  rw[l43,l45,l10,X6];have h:au w0 S R w0 (mw big^aV o fm (os.map Prod.fst)^rl zT os^aV e KI es):=h.drop.le (bi Le.rfl (bZ _ _ _));have hol:=((h.take (aV o fm (os.map Prod.fst))).rd (s:=o)).2;rw[fz]at hol;have hel:=((h.take (aV e KI es)).rd (s:=e)).2;have hT:∀t∈os.map tn,Xp t:=λt ht=>by
   obtain⟨p,hp,rfl⟩:=pu.1 ht;exact ho p hp
  have he':∀x∈es,x<18446744073709551616:=λx hx=>by have:=he x hx;omega
  have hall:(txF (os.map tn) es).length≤12800043*es.length:=D2 hT he' es.length;refine Pk h λn1 w h=>?_;have h:au w0 S R w (F7 n1 (A2 (os.map tn) es (0:Int).toNat)^mw big^aV o fm (os.map Prod.fst)^rl zT os^aV e KI es):=h;refine cS (λy:Int=>F7 n1 (A2 (os.map tn) es y.toNat)^mw big^aV o fm (os.map Prod.fst)^rl zT os^aV e KI es) (λy:Int=>0≤y∧y≤es.length) (λy:Int=>es.length-y.toNat) h ⟨gQ 0,by omega⟩ ?_;rintro(i:Int) w ⟨h0,h1⟩ h;refine ae (λc=>?_) λc=>?_
  ·have c:i<((e.len:Nat):Int):=bV c;have hi:i.toNat<es.length:=(by omega);obtain⟨x,hx⟩:∃x,es[i.toNat]?=some x:=⟨_,bK hi⟩;have hxm:=gI hx;have hxl:=he x hxm;have d1:=pE (n:=x) (by omega);have hlen:=D2 hT he' i.toNat;have ei:(i+1).toNat=i.toNat+1:=(by omega);refine bS (s:=e) (h.take (aV e KI es)) h0 hi (dP (h.take (aV e KI es)) e i.toNat hx rfl ?_);refine bP (A:=bg) (Q:=mw big) (uC big x hxl (λhb0=>(hb hb0).2 x hxm)) h λr w h=>?_;obtain⟨hr,h⟩:=h.aP;rw[hr,zj];refine ar (A8 n1 (A2 (os.map tn) es i.toNat) (bA (dg x)) (by rw[qG];omega)) h λ_ w h=>?_;rw[Ey]at h;obtain⟨M,hM⟩:∃M,M=(match(os.map tn)[i.toNat]? with|some o=>NI o|none=>([]:List UInt8)):=⟨_,rfl⟩;have hfin:A2 (os.map tn) es (i.toNat+1)=A2 (os.map tn) es i.toNat++dg x++M++[10]:=by
    have:Xb (os.map tn) i.toNat x=dg x++(M++[10]):=(by rw[hM];rfl);rw[WD hx,this];simp[jF]
   have hMl:M.length≤12800022:=by
    rw[hM];split
    ·rename_i t ht;exact Fk (hT t (gI ht))
    ·exact gJ _
   have h:au w0 S R w (F7 n1 (A2 (os.map tn) es i.toNat++dg x)^mw big^aV o fm (os.map Prod.fst)^rl zT os^aV e KI es):=h.aI;refine aQ h (λ_=>F7 n1 (A2 (os.map tn) es i.toNat++dg x++M)^mw big^aV o fm (os.map Prod.fst)^rl zT os^aV e KI es) (λ_=>True) (λ_ w _ h=>?_) ?_
   ·refine ar (A8 n1 (A2 (os.map tn) es i.toNat++dg x++M) (bA [10]) (by rw[qG];simp only[gp,mc];omega)) h λ_ w h=>?_;rw[Ey,←hfin,←ei]at h;rw[gi (n:=i+1)];exact⟨⟨⟨by omega,by omega⟩,h⟩,by omega⟩
   ·refine ae (λc2=>?_) λc2=>?_
    ·have c2:i<((o.len:Nat):Int):=bV c2;have hio:i.toNat<os.length:=(by omega);obtain⟨p,hp⟩:∃p,os[i.toNat]?=some p:=⟨_,bK hio⟩;have hpm:=gI hp;have hpf:(os.map Prod.fst)[i.toNat]?=some p.1:=(by rw[kV,hp];rfl);have hpt:(os.map tn)[i.toNat]?=some (tn p):=(by rw[kV,hp];rfl);have ok:=ho p hpm;have hMe:M=NI (tn p):=by rw[hM,hpt]
     haveI:=Wi hp
     haveI:=Wj hp
     have fw:=λhb0=>(hb hb0).1 p hpm;have la:=tF (sign:=[32,43]) (by decide) ok.a;have lb:=tF (sign:=[32,45]) (by decide) ok.b;have lla:=ok.la;have llb:=ok.lb;refine bS (s:=o) (h.take (aV o fm (os.map Prod.fst))) h0 (by rw[fz];exact hio) (dP (h.take (aV o fm (os.map Prod.fst))) o i.toNat hpf rfl (aD h λn12 w h=>az h (by rfl) λw h=>aM h λw h=>?_));refine ah (x:=p.1.1) h rfl (ah (x:=p.1.2.1) h rfl ?_);have h:au w0 S R w (mw big^af n12 (Ks.mk fm p.1)^F7 n1 (A2 (os.map tn) es i.toNat++dg x)^rl zT os^aV o fm (os.map Prod.fst)^aV e KI es):=h.aI;refine bP (A:=bg) (Q:=mw big^aV p.1.1 KS p.2.1) (FU big [43] (by decide) p.1.1 p.2.1 ok.a ok.la (λhb0=>(fw hb0).a)) h λr w h=>?_;obtain⟨hr,h⟩:=h.aP;rw[hr];refine aN h rfl ?_;refine bP (A:=bg) (Q:=mw big^aV p.1.2.1 KS p.2.2) (FU big [45] (by decide) p.1.2.1 p.2.2 ok.b ok.lb (λhb0=>(fw hb0).b)) h λr w h=>?_;obtain⟨hr,h⟩:=h.aP;rw[hr];refine sH (by show(tD [32,43] (tn p).1).length+(tD [32,45] (tn p).2.1).length≤_;omega) ?_;rw[rV];refine ar (A8 n1 (A2 (os.map tn) es i.toNat++dg x) (bA (tD [32,43] p.2.1++tD [32,45] p.2.2)) (by
      rw[qG];simp only[gp];show _+_+((tD [32,43] (tn p).1).length+(tD [32,45] (tn p).2.1).length)≤_;omega)) h λ_ w h=>?_
     rw[Ey]at h;refine ah (x:=p.1.2.2.2) h rfl (ae (λc3=>?_) λc3=>?_)
     ·have c3:p.1.2.2.2≠0:=(by simpa using c3);have dw:=pE ok.w.2;refine ah (x:=p.1.2.2.2) h rfl (bP (A:=bg) (Q:=mw big) (ET big p.1.2.2.2 ok.w.1 ok.w.2 (λhb0=>(fw hb0).w)) h λr w h=>?_);obtain⟨hr,h⟩:=h.aP;rw[hr,zj];have dw:(dg p.1.2.2.2).length≤20:=dw;refine sH (by simp only[gg,kb];omega) ?_;rw[rV];refine ar (A8 n1 (A2 (os.map tn) es i.toNat++dg x++(tD [32,43] p.2.1++tD [32,45] p.2.2)) (bA ([32,64]++dg p.1.2.2.2)) (by
       rw[qG];simp only[gp,gg,kb];show _+_+((tD [32,43] (tn p).1).length+(tD [32,45] (tn p).2.1).length)+_≤_;omega)) h λ_ w h=>?_
      rw[Ey]at h;have em:A2 (os.map tn) es i.toNat++dg x++(tD [32,43] p.2.1++tD [32,45] p.2.2)++([32,64]++dg p.1.2.2.2)=A2 (os.map tn) es i.toNat++dg x++M:=by
       rw[hMe];show _=_++(tD [32,43] p.2.1++(tD [32,45] p.2.2++(if p.1.2.2.2=0 then []else [32,64]++dg p.1.2.2.2)));rw[ay c3];simp[jF]
      rw[em]at h;exact⟨trivial,h.aI⟩
     ·have c3:p.1.2.2.2=0:=(by simpa using c3);have em:A2 (os.map tn) es i.toNat++dg x++(tD [32,43] p.2.1++tD [32,45] p.2.2)=A2 (os.map tn) es i.toNat++dg x++M:=by
       rw[hMe];show _=_++(tD [32,43] p.2.1++(tD [32,45] p.2.2++(if p.1.2.2.2=0 then []else [32,64]++dg p.1.2.2.2)));rw[aG c3];simp[jF]
      rw[em]at h;exact⟨trivial,h.aI⟩
    ·have c2:¬i<((o.len:Nat):Int):=bY c2;have hn:(os.map tn)[i.toNat]?=none:=rj (by rw[fz];omega);have hMe:M=[]:=(by rw[hM,hn]);rw[hMe,rn];exact⟨trivial,h⟩
  ·have c:¬i<((e.len:Nat):Int):=bY c;have ei:i.toNat=es.length:=(by omega);rw[ei]at h;refine ar (O3 n1 (A2 (os.map tn) es es.length)) h λr w h=>?_;obtain⟨hr,h⟩:=h.aP;exact au.aH hr h.gm
end Lw

end Go.X
