/- Contracts and plain facts: MqO FqQ FqR MqW MqX MqB. -/
import Derived.Test.YtaimlgfepkopkaaGreatB11
set_option linter.all false
namespace Go.X
open Go.Proofs
namespace EW
open ff
structure Cx where
 ao:Int
 k:Nat→z9.Ct
 p:Nat→Option Pt
abbrev lN(X:Cx):List Lf:=[.int .i64 (X.k 0).1,.int .i64 (X.k 0).2.1,.int .i64 (X.k 0).2.2.1,.int .i64 (X.k 0).2.2.2.1,.int .i64 (X.k 0).2.2.2.2.1,.int .i64 (X.k 0).2.2.2.2.2.1,.int .i64 (X.k 0).2.2.2.2.2.2.1,.int .i64 (X.k 0).2.2.2.2.2.2.2,.int .i64 (X.k 1).1,.int .i64 (X.k 1).2.1,.int .i64 (X.k 1).2.2.1,.int .i64 (X.k 1).2.2.2.1,.int .i64 (X.k 1).2.2.2.2.1,.int .i64 (X.k 1).2.2.2.2.2.1,.int .i64 (X.k 1).2.2.2.2.2.2.1,.int .i64 (X.k 1).2.2.2.2.2.2.2,.int .i64 (X.k 2).1,.int .i64 (X.k 2).2.1,.int .i64 (X.k 2).2.2.1,.int .i64 (X.k 2).2.2.2.1,.int .i64 (X.k 2).2.2.2.2.1,.int .i64 (X.k 2).2.2.2.2.2.1,.int .i64 (X.k 2).2.2.2.2.2.2.1,.int .i64 (X.k 2).2.2.2.2.2.2.2,.int .i64 (X.k 3).1,.int .i64 (X.k 3).2.1,.int .i64 (X.k 3).2.2.1,.int .i64 (X.k 3).2.2.2.1,.int .i64 (X.k 3).2.2.2.2.1,.int .i64 (X.k 3).2.2.2.2.2.1,.int .i64 (X.k 3).2.2.2.2.2.2.1,.int .i64 (X.k 3).2.2.2.2.2.2.2,.int .i64 (X.k 4).1,.int .i64 (X.k 4).2.1,.int .i64 (X.k 4).2.2.1,.int .i64 (X.k 4).2.2.2.1,.int .i64 (X.k 4).2.2.2.2.1,.int .i64 (X.k 4).2.2.2.2.2.1,.int .i64 (X.k 4).2.2.2.2.2.2.1,.int .i64 (X.k 4).2.2.2.2.2.2.2,.int .i64 (X.k 5).1,.int .i64 (X.k 5).2.1,.int .i64 (X.k 5).2.2.1,.int .i64 (X.k 5).2.2.2.1,.int .i64 (X.k 5).2.2.2.2.1,.int .i64 (X.k 5).2.2.2.2.2.1,.int .i64 (X.k 5).2.2.2.2.2.2.1,.int .i64 (X.k 5).2.2.2.2.2.2.2,.int .i64 (X.k 6).1,.int .i64 (X.k 6).2.1,.int .i64 (X.k 6).2.2.1,.int .i64 (X.k 6).2.2.2.1,.int .i64 (X.k 6).2.2.2.2.1,.int .i64 (X.k 6).2.2.2.2.2.1,.int .i64 (X.k 6).2.2.2.2.2.2.1,.int .i64 (X.k 6).2.2.2.2.2.2.2,.int .i64 (X.k 7).1,.int .i64 (X.k 7).2.1,.int .i64 (X.k 7).2.2.1,.int .i64 (X.k 7).2.2.2.1,.int .i64 (X.k 7).2.2.2.2.1,.int .i64 (X.k 7).2.2.2.2.2.1,.int .i64 (X.k 7).2.2.2.2.2.2.1,.int .i64 (X.k 7).2.2.2.2.2.2.2,.ptr (X.p 0),.ptr (X.p 1),.ptr (X.p 2),.ptr (X.p 3),.ptr (X.p 4),.ptr (X.p 5),.ptr (X.p 6),.ptr (X.p 7)]
def jq(b:Nat)(X:Cx)(pre:List Lf)(v:LV):SP:=ex λs:Sl×Sl=>ah b (pre++.sl s.1:: .sl s.2::lN X)^aP s.1 KI v.1^aP s.2 KI v.2
instance(b:Nat)(X:Cx)(pre:List Lf)(v:LV):qq (jq b X pre v):=by unfold jq;infer_instance
theorem _root_.Go.X.au.jq{w0 w:World}{S0 R0:Nat→Prop}{F G:SP}(h:au w0 S0 R0 w F)(b:Nat)(X:Cx)(pre:List Lf)(v:LV)[t:Take (EW.jq b X pre v) F G]:∃s1 s2,au w0 S0 R0 w (ah b (pre++.sl s1:: .sl s2::lN X)^aP s1 KI v.1^aP s2 KI v.2^G):=by
 obtain⟨s,h⟩:=(h.le t.le).lX;exact⟨s.1,s.2,h.aG⟩
theorem _root_.Go.X.au.dv{w0 w:World}{S0 R0:Nat→Prop}{F G:SP}(h:au w0 S0 R0 w F)(b:Nat)(X:Cx)(pre:List Lf)(s1 s2:Sl)(v:LV)[t:Take (ah b (pre++.sl s1:: .sl s2::lN X)^aP s1 KI v.1^aP s2 KI v.2) F G]:au w0 S0 R0 w (EW.jq b X pre v^G):=
 au.s_ (f:=λs:Sl×Sl=>ah b (pre++.sl s.1:: .sl s.2::lN X)^aP s.1 KI v.1^aP s.2 KI v.2) (s1,s2) (h.le t.le)
theorem VW(X:Cx)(pre:List Lf)(x y:Sl):Ks.un [.sl] (((pre++Lf.sl x::Lf.sl y::lN X).drop pre.length).take 1)=some x:=by rw[Cs];rfl
theorem VX(X:Cx)(pre:List Lf)(x y:Sl):Ks.un [.sl] (((pre++Lf.sl x::Lf.sl y::lN X).drop (pre.length+1)).take 1)=some y:=by rw[zf,Er,Bg (by omega)];rfl
theorem Ye(X:Cx)(pre:List Lf)(x y:Sl):((pre++Lf.sl x::Lf.sl y::lN X).drop (pre.length+1)).take 1=[Lf.sl y]:=by rw[zf,Er,Bg (by omega)];rfl
theorem Qb(X:Cx)(pre:List Lf)(x y z:Sl){o:Nat}(h:o≤pre.length+1):Nat.ble (o+[Lf.sl z].length) (pre++Lf.sl x::Lf.sl y::lN X).length=true:=iD (by simp;omega)
theorem QX(X:Cx)(pre:List Lf)(x y z:Sl):dj (pre++Lf.sl x::Lf.sl y::lN X) pre.length [Lf.sl z]=pre++Lf.sl z::Lf.sl y::lN X:=by
 rw[CX (by simp only[iE,kS,rN];omega),eK,Cv,zf,qy,Er,Bg (by omega)];simp
theorem QY(X:Cx)(pre:List Lf)(x y z:Sl):dj (pre++Lf.sl x::Lf.sl y::lN X) (pre.length+1) [Lf.sl z]=pre++Lf.sl x::Lf.sl z::lN X:=by
 rw[CX (by simp only[iE,kS,rN];omega),eK,List.take_append,Er,kp (by omega),show pre.length+1+[Lf.sl z].length=pre.length+2 from rfl,zf,Er,Bg (by omega)];simp
theorem w7(b:Nat)(X:Cx)(pre:List Lf)(o:Nat)(ho:pre.length=o)(v:LV)(s:Int)(hl:v.1.length+v.2.length≤4294967296):bm (ON (some ⟨b,o⟩) s) (jq b X pre v) (λr=>bh (r=bH v s) (jq b X pre v)):=
 br λw S R h=>by
  subst ho;obtain⟨s1,s2,h⟩:=(h.le (aF _)).jq b X pre v;refine ac (aj h (VW X pre _ _) ?_);refine bI (A:=aT) (Q:=ba s1 KI v.1) (Ik.yC s1 s v.1 (by omega)) h λr w h=>?_;obtain⟨hr,h⟩:=h.aB;refine ae (λc=>?_) λc=>?_
  ·exact au.aE (by rw[bH,aC (hr.1 c)]) (h.dv b X pre s1 s2 v).bk
  ·have c1:¬s∈v.1:=λhm=>by have:=hr.2 hm;rw[c]at this;cases this
   refine ac (aj h (VX X pre _ _) ?_);refine bI (A:=aT) (Q:=ba s2 KI v.2) (Ik.yC s2 s v.2 (by omega)) h λr w h=>?_;obtain⟨hr,h⟩:=h.aB;refine ae (λc=>?_) λc=>?_
   ·exact au.aE (by rw[bH,ay c1,aC (hr.1 c)]) (h.dv b X pre s1 s2 v).bk
   ·have c2:¬s∈v.2:=λhm=>by have:=hr.2 hm;rw[c]at this;cases this
    exact au.aE (by rw[bH,ay c1,ay c2]) (h.dv b X pre s1 s2 v).bk
theorem yQ(b:Nat)(X:Cx)(pre:List Lf)(o:Nat)(ho:pre.length=o)(v:LV)(s:Int)(f:Bool)(hl:v.1.length+v.2.length≤4294967295):
  bm (KA (some ⟨b,o⟩) s f) (jq b X pre v) (λr=>bh (r=(jX v s f).1) (jq b X pre (jX v s f).2)):=
 br λw S R h=>by
  subst ho;refine ae (λc=>?_) λc=>?_
  ·have c:s<0∨8≤s:=bV;rw[jX,aC c];exact au.aE rfl h
  ·have c:¬(s<0∨8≤s):=(by simp at c;omega);rw[jX,ay c];refine af (w7 b X pre _ rfl v s (by omega)) (h.le (aF _)) λr w h=>?_;obtain⟨hr,h⟩:=h.aB;refine ae (λc2=>?_) λc2=>?_
   ·rw[aC (by rw[←hr];simpa using c2)];exact au.aE rfl h.bk
   ·rw[ay (by rw[←hr];simpa using c2)];obtain⟨s1,s2,h⟩:=h.jq b X pre v;refine ae (λc3=>?_) λc3=>?_
    ·rw[aC c3];refine ac (aj h (VW X pre _ _) ?_);have h:=h.nil KI;refine dE (s:=⟨none,0,0⟩) (x:=s1) h rfl (by simp;omega) λs4 w _ h=>?_;have h:=h.eB (s:=s4) (K:=KI) (oE _);refine aA h λn w h=>?_;have h:=h.cT n KI [s] rfl (by simp);refine dE (s:=s4) (x:=⟨some ⟨n,0⟩,1,1⟩) h rfl (by simp;omega) λs' w _ h=>?_;refine ac (az h b (pre++.sl s':: .sl s2::lN X) rfl (Qb X pre _ _ _ (uc _)) (QX X pre _ _ _) λw h=>?_);exact au.aE rfl (h.dv b X pre s' s2 (v.1++[s],v.2)).bk
    ·have c3:f=false:=c3;rw[c3,ay (by simp)];refine ac (aj h (VX X pre _ _) ?_);have h:=h.nil KI;refine dE (s:=⟨none,0,0⟩) (x:=s2) h rfl (by simp;omega) λs4 w _ h=>?_;have h:=h.eB (s:=s4) (K:=KI) (oE _);refine aA h λn w h=>?_;have h:=h.cT n KI [s] rfl (by simp);refine dE (s:=s4) (x:=⟨some ⟨n,0⟩,1,1⟩) h rfl (by simp;omega) λs' w _ h=>?_;refine ac (az h b (pre++.sl s1:: .sl s'::lN X) rfl (Qb X pre _ _ _ (fa _)) (QY X pre _ _ _) λw h=>?_);exact au.aE rfl (h.dv b X pre s1 s' (v.1,v.2++[s])).bk
theorem FW(b:Nat)(X:Cx)(pre:List Lf)(o:Nat)(ho:pre.length=o)(v:LV):bm (RV (some ⟨b,o⟩)) (jq b X pre v) (λr=>bh (r=bM v) (jq b X pre v)):=
 br λw S R h=>by
  subst ho;obtain⟨s1,s2,h⟩:=(h.le (aF _)).jq b X pre v;have hs1:=((h.take (aP s1 KI v.1)).rd (s:=s1)).2;have hs2:=((h.take (aP s2 KI v.2)).rd (s:=s2)).2;obtain⟨a,c⟩:=v;refine ac (aj h (VW X pre _ _) ?_);refine ae (λc1=>?_) λc1=>?_
  ·have c1:0<a.length:=(by simp at c1;dsimp only at hs1;omega);refine ac (aj h (VW X pre _ _) ?_);have h':=h.take (aP s1 KI a);refine bR h' (by omega) (by simpa using c1) ?_;refine dW h' s1 0 (bT c1) rfl ?_;refine au.aE ?_ (h.dv b X pre s1 s2 (a,c)).bk;cases a with
   |nil=>simp at c1
   |cons x a=>rfl
  ·have c1:a=[]:=List.eq_nil_of_length_eq_zero (by simp at c1;dsimp only at hs1;omega);refine ac (aj h (VX X pre _ _) ?_);refine ae (λc2=>?_) λc2=>?_
   ·have c2:0<c.length:=(by simp at c2;dsimp only at hs2;omega);refine ac (aj h (VX X pre _ _) ?_);have h':=h.take (aP s2 KI c);refine bR h' (by omega) gk ?_;refine dW h' s2 0 (bT c2) rfl ?_;refine au.aE ?_ (h.dv b X pre s1 s2 (a,c)).bk;rw[c1];cases c with
    |nil=>simp at c2
    |cons x a=>rfl
   ·have c2:c=[]:=List.eq_nil_of_length_eq_zero (by simp at c2;dsimp only at hs2;omega);refine au.aE ?_ (h.dv b X pre s1 s2 (a,c)).bk;rw[c1,c2];rfl
theorem uZ(b:Nat)(X:Cx)(pre:List Lf)(o:Nat)(ho:pre.length=o)(v:LV)(s:Int)(hl:v.1.length+v.2.length≤4294967296):
  bm (OE (some ⟨b,o⟩) s) (jq b X pre v) (λr=>bh (r=(jl v s).1) (jq b X pre (jl v s).2)):=
 br λw S R h=>by
  subst ho;refine af (w7 b X pre _ rfl v s hl) (h.le (aF _)) λr w h=>?_;obtain⟨hr,h⟩:=h.aB;refine aH h λw h=>?_;obtain⟨s1,s2,h⟩:=h.jq b X pre v;refine ac (ac (aj h (VW X pre _ _) (aj h (VX X pre _ _) ?_)));refine bI (A:=aT) (Q:=ba s1 KI v.1) (tx s1 v.1 s (by omega)) h λr1 w h=>?_;refine aI h (Ye X pre _ _) ?_;refine bI (A:=aT) (Q:=ba s2 KI v.2) (tx s2 v.2 s (by omega)) h λr2 w h=>?_;refine ac (az h b (pre++.sl r1:: .sl s2::lN X) rfl (Qb X pre _ _ _ (uc _)) (QX X pre _ _ _) λw h=>?_);refine ac (az h b (pre++.sl r1:: .sl r2::lN X) rfl (Qb X pre _ _ _ (fa _)) (QY X pre _ _ _) λw h=>?_);refine au.aE ?_ (h.dv b X pre r1 r2 (v.1.filter (λx=>decide (x≠s)),v.2.filter (λx=>decide (x≠s)))).bk;rw[hr];by_cases hp:bH v s=0<;>simp[jl,hp]
end EW

namespace NW
open bB bi ff _root_.Go.X.Tree iy kj lp fg lK lV C7 wP wR ET EU JY JS
def U6(u v:Qm):Prop:=∀i,(v.fl i).map (λf=>(f.nx,f.sg))=(u.fl i).map λf=>(f.nx,f.sg)
end NW

namespace Qq
open bB bi ff _root_.Go.X.Tree iy kj lp fg lK lV C7 wP wR ET EU JY JS NW
abbrev KD:Ks:=[.int .i64,.int .u64,.int .i64,.int .u64,.int .i64,.int .u64,.bool,.sl,.int .i64,.int .i64,.int .i64,.int .i64,.int .u64,.int .u64,.bool,.int .i64,.int .i64,.bool]
abbrev DD:=Ks.T KD
abbrev dG(d:DD):Int:=d.2.1
abbrev dS(d:DD):Sg:=(d.2.2.1,d.2.2.2.1,d.2.2.2.2.1,d.2.2.2.2.2.1,d.2.2.2.2.2.2.1)
abbrev dR(d:DD):Sl:=d.2.2.2.2.2.2.2.1
abbrev dC(d:DD):Cf:=(d.2.2.2.2.2.2.2.2.1,d.2.2.2.2.2.2.2.2.2.1,d.2.2.2.2.2.2.2.2.2.2.1,d.2.2.2.2.2.2.2.2.2.2.2.1,d.2.2.2.2.2.2.2.2.2.2.2.2.1,d.2.2.2.2.2.2.2.2.2.2.2.2.2.1,d.2.2.2.2.2.2.2.2.2.2.2.2.2.2.1,d.2.2.2.2.2.2.2.2.2.2.2.2.2.2.2.1,d.2.2.2.2.2.2.2.2.2.2.2.2.2.2.2.2.1)
abbrev OpD:=DD×List Int
structure JT(p:OpD):Prop where
 g:U (dG p.1)
 s:U (P5 (dS p.1))∧U (ur (dS p.1))
 c:0≤cH (dC p.1)∧U (cR (dC p.1))
 r:∀y∈p.2,U y
theorem qZ(g:Ks.T KF)(x:Sg)(l:List Sg):bm (Fm g) (aT^ba g.2.2.2.2.2 KS (x::l)) (λr=>bh (r=if ur x>g.2.2.2.1 then ur x else g.2.2.2.1) aT):=
 br λw0 S R h=>by
  refine aA h λn1 w h=>aH h λw h=>aj h rfl (aj h rfl ?_);refine bR (s:=g.2.2.2.2.2) h (by decide) (by simp) ?_;refine eU h g.2.2.2.2.2 0 3 x rfl rfl (by decide) rfl ?_;exact au.aE rfl h.fV
end Qq

namespace E4
open bB bi ff EW _root_.Go.X.Tree iy kj lp fg lK lV C7 wP wR ET EU JY JS NW Qq
abbrev RF:=Ks.T KF
def fQ(r:Nat→RF)(i:Nat)(x:RF):Nat→RF:=λj=>if j=i then x else r j
theorem cO(r:Nat→RF)(i:Nat)(x:RF):fQ r i x i=x:=by simp[fQ]
theorem fE(r:Nat→RF){i j:Nat}(x:RF)(h:j≠i):fQ r i x j=r j:=by simp[fQ,h]
def oS(t:Nat→Bool)(i:Nat)(x:Bool):Nat→Bool:=λj=>if j=i then x else t j
theorem vD(t:Nat→Bool)(i:Nat)(x:Bool):oS t i x i=x:=by simp[oS]
theorem CV(t:Nat→Bool){i j:Nat}(x:Bool)(h:j≠i):oS t i x j=t j:=by simp[oS,h]
abbrev dN(X:Cx)(c:Cf)(r:Nat→RF)(t:Nat→Bool):List Lf:=[.int .u64 X.ao,.int .i64 (cQ c),.int .i64 (cF c),.int .i64 (cL c),.int .i64 (cW c),.int .u64 (cH c),.int .u64 (cR c),.bool (cD c),.int .i64 (dM c),.int .i64 (eF c),.int .i64 (r 0).1,.int .i64 (r 0).2.1,.int .i64 (r 0).2.2.1,.int .u64 (r 0).2.2.2.1,.int .u64 (r 0).2.2.2.2.1,.sl (r 0).2.2.2.2.2,.int .i64 (r 1).1,.int .i64 (r 1).2.1,.int .i64 (r 1).2.2.1,.int .u64 (r 1).2.2.2.1,.int .u64 (r 1).2.2.2.2.1,.sl (r 1).2.2.2.2.2,.int .i64 (r 2).1,.int .i64 (r 2).2.1,.int .i64 (r 2).2.2.1,.int .u64 (r 2).2.2.2.1,.int .u64 (r 2).2.2.2.2.1,.sl (r 2).2.2.2.2.2,.int .i64 (r 3).1,.int .i64 (r 3).2.1,.int .i64 (r 3).2.2.1,.int .u64 (r 3).2.2.2.1,.int .u64 (r 3).2.2.2.2.1,.sl (r 3).2.2.2.2.2,.int .i64 (r 4).1,.int .i64 (r 4).2.1,.int .i64 (r 4).2.2.1,.int .u64 (r 4).2.2.2.1,.int .u64 (r 4).2.2.2.2.1,.sl (r 4).2.2.2.2.2,.int .i64 (r 5).1,.int .i64 (r 5).2.1,.int .i64 (r 5).2.2.1,.int .u64 (r 5).2.2.2.1,.int .u64 (r 5).2.2.2.2.1,.sl (r 5).2.2.2.2.2,.int .i64 (r 6).1,.int .i64 (r 6).2.1,.int .i64 (r 6).2.2.1,.int .u64 (r 6).2.2.2.1,.int .u64 (r 6).2.2.2.2.1,.sl (r 6).2.2.2.2.2,.int .i64 (r 7).1,.int .i64 (r 7).2.1,.int .i64 (r 7).2.2.1,.int .u64 (r 7).2.2.2.1,.int .u64 (r 7).2.2.2.2.1,.sl (r 7).2.2.2.2.2,.bool (t 0),.bool (t 1),.bool (t 2),.bool (t 3),.bool (t 4),.bool (t 5),.bool (t 6),.bool (t 7)]
theorem Bn(X:Cx)(c:Cf)(r:Nat→RF)(t:Nat→Bool)(a b:Sl){i:Nat}(hi:i<8):Ks.un KF (((dN X c r t++Lf.sl a::Lf.sl b::lN X).drop (1+9+i*6)).take 6)=some (r i):=by
 have:i=0∨i=1∨i=2∨i=3∨i=4∨i=5∨i=6∨i=7:=by omega
 rcases this with rfl|rfl|rfl|rfl|rfl|rfl|rfl|rfl<;>rfl
theorem Ua(X:Cx)(c:Cf)(r:Nat→RF)(t:Nat→Bool)(a b:Sl){i:Nat}(hi:i<8):((dN X c r t++Lf.sl a::Lf.sl b::lN X).drop (1+9+i*6)).take 6=Ks.mk KF (r i):=by
 have:i=0∨i=1∨i=2∨i=3∨i=4∨i=5∨i=6∨i=7:=by omega
 rcases this with rfl|rfl|rfl|rfl|rfl|rfl|rfl|rfl<;>rfl
theorem CI(X:Cx)(c:Cf)(r:Nat→RF)(t:Nat→Bool)(a b:Sl){i:Nat}(hi:i<8):Ks.un [.int .i64] (((dN X c r t++Lf.sl a::Lf.sl b::lN X).drop (1+9+i*6+1)).take 1)=some (r i).2.1:=by
 have:i=0∨i=1∨i=2∨i=3∨i=4∨i=5∨i=6∨i=7:=by omega
 rcases this with rfl|rfl|rfl|rfl|rfl|rfl|rfl|rfl<;>rfl
theorem CJ(X:Cx)(c:Cf)(r:Nat→RF)(t:Nat→Bool)(a b:Sl){i:Nat}(hi:i<8):Ks.un [.int .i64] (((dN X c r t++Lf.sl a::Lf.sl b::lN X).drop (1+9+i*6+2)).take 1)=some (r i).2.2.1:=by
 have:i=0∨i=1∨i=2∨i=3∨i=4∨i=5∨i=6∨i=7:=by omega
 rcases this with rfl|rfl|rfl|rfl|rfl|rfl|rfl|rfl<;>rfl
theorem M6(X:Cx)(c:Cf)(r:Nat→RF)(t:Nat→Bool)(a b:Sl){i:Nat}(hi:i<8):Ks.un [.int .u64] (((dN X c r t++Lf.sl a::Lf.sl b::lN X).drop (1+9+i*6+4)).take 1)=some (r i).2.2.2.2.1:=by
 have:i=0∨i=1∨i=2∨i=3∨i=4∨i=5∨i=6∨i=7:=by omega
 rcases this with rfl|rfl|rfl|rfl|rfl|rfl|rfl|rfl<;>rfl
theorem rS(X:Cx)(c:Cf)(r:Nat→RF)(t:Nat→Bool)(a b:Sl){i:Nat}(hi:i<8):Ks.un [.sl] (((dN X c r t++Lf.sl a::Lf.sl b::lN X).drop (1+9+i*6+5)).take 1)=some (r i).2.2.2.2.2:=by
 have:i=0∨i=1∨i=2∨i=3∨i=4∨i=5∨i=6∨i=7:=by omega
 rcases this with rfl|rfl|rfl|rfl|rfl|rfl|rfl|rfl<;>rfl
theorem P3(X:Cx)(c:Cf)(r:Nat→RF)(t:Nat→Bool)(a b:Sl){i:Nat}(hi:i<8):((dN X c r t++Lf.sl a::Lf.sl b::lN X).drop (1+9+i*6+5)).take 1=[.sl (r i).2.2.2.2.2]:=by
 have:i=0∨i=1∨i=2∨i=3∨i=4∨i=5∨i=6∨i=7:=by omega
 rcases this with rfl|rfl|rfl|rfl|rfl|rfl|rfl|rfl<;>rfl
theorem Ez(X:Cx)(c:Cf)(r:Nat→RF)(t:Nat→Bool)(a b:Sl){i:Nat}(hi:i<8):Ks.un [.bool] (((dN X c r t++Lf.sl a::Lf.sl b::lN X).drop (1+57+i*1)).take 1)=some (t i):=by
 have:i=0∨i=1∨i=2∨i=3∨i=4∨i=5∨i=6∨i=7:=by omega
 rcases this with rfl|rfl|rfl|rfl|rfl|rfl|rfl|rfl<;>rfl
theorem M8(X:Cx)(c:Cf)(r:Nat→RF)(t:Nat→Bool)(a b:Sl){i:Nat}(hi:i<8)(x:RF):dj (dN X c r t++Lf.sl a::Lf.sl b::lN X) (1+9+i*6) (Ks.mk KF x)=dN X c (fQ r i x) t++Lf.sl a::Lf.sl b::lN X:=by
 have:i=0∨i=1∨i=2∨i=3∨i=4∨i=5∨i=6∨i=7:=by omega
 rcases this with rfl|rfl|rfl|rfl|rfl|rfl|rfl|rfl<;>rfl
theorem GQ(X:Cx)(c:Cf)(r:Nat→RF)(t:Nat→Bool)(a b:Sl){i:Nat}(hi:i<8)(x:Int):dj (dN X c r t++Lf.sl a::Lf.sl b::lN X) (1+9+i*6+1) [.int .i64 x]=dN X c (fQ r i ((r i).1,x,(r i).2.2.1,(r i).2.2.2.1,(r i).2.2.2.2.1,(r i).2.2.2.2.2)) t++Lf.sl a::Lf.sl b::lN X:=by
 have:i=0∨i=1∨i=2∨i=3∨i=4∨i=5∨i=6∨i=7:=by omega
 rcases this with rfl|rfl|rfl|rfl|rfl|rfl|rfl|rfl<;>rfl
theorem M9(X:Cx)(c:Cf)(r:Nat→RF)(t:Nat→Bool)(a b:Sl){i:Nat}(hi:i<8)(x:Int):dj (dN X c r t++Lf.sl a::Lf.sl b::lN X) (1+9+i*6+2) [.int .i64 x]=dN X c (fQ r i ((r i).1,(r i).2.1,x,(r i).2.2.2.1,(r i).2.2.2.2.1,(r i).2.2.2.2.2)) t++Lf.sl a::Lf.sl b::lN X:=by
 have:i=0∨i=1∨i=2∨i=3∨i=4∨i=5∨i=6∨i=7:=by omega
 rcases this with rfl|rfl|rfl|rfl|rfl|rfl|rfl|rfl<;>rfl
theorem Ub(X:Cx)(c:Cf)(r:Nat→RF)(t:Nat→Bool)(a b:Sl){i:Nat}(hi:i<8)(x:Int):dj (dN X c r t++Lf.sl a::Lf.sl b::lN X) (1+9+i*6+3) [.int .u64 x]=dN X c (fQ r i ((r i).1,(r i).2.1,(r i).2.2.1,x,(r i).2.2.2.2.1,(r i).2.2.2.2.2)) t++Lf.sl a::Lf.sl b::lN X:=by
 have:i=0∨i=1∨i=2∨i=3∨i=4∨i=5∨i=6∨i=7:=by omega
 rcases this with rfl|rfl|rfl|rfl|rfl|rfl|rfl|rfl<;>rfl
theorem M_(X:Cx)(c:Cf)(r:Nat→RF)(t:Nat→Bool)(a b:Sl){i:Nat}(hi:i<8)(x:Int):dj (dN X c r t++Lf.sl a::Lf.sl b::lN X) (1+9+i*6+4) [.int .u64 x]=dN X c (fQ r i ((r i).1,(r i).2.1,(r i).2.2.1,(r i).2.2.2.1,x,(r i).2.2.2.2.2)) t++Lf.sl a::Lf.sl b::lN X:=by
 have:i=0∨i=1∨i=2∨i=3∨i=4∨i=5∨i=6∨i=7:=by omega
 rcases this with rfl|rfl|rfl|rfl|rfl|rfl|rfl|rfl<;>rfl
theorem Na(X:Cx)(c:Cf)(r:Nat→RF)(t:Nat→Bool)(a b:Sl){i:Nat}(hi:i<8)(x:Sl):dj (dN X c r t++Lf.sl a::Lf.sl b::lN X) (1+9+i*6+5) [.sl x]=dN X c (fQ r i ((r i).1,(r i).2.1,(r i).2.2.1,(r i).2.2.2.1,(r i).2.2.2.2.1,x)) t++Lf.sl a::Lf.sl b::lN X:=by
 have:i=0∨i=1∨i=2∨i=3∨i=4∨i=5∨i=6∨i=7:=by omega
 rcases this with rfl|rfl|rfl|rfl|rfl|rfl|rfl|rfl<;>rfl
theorem GR(X:Cx)(c:Cf)(r:Nat→RF)(t:Nat→Bool)(a b:Sl){i:Nat}(hi:i<8)(x:Bool):dj (dN X c r t++Lf.sl a::Lf.sl b::lN X) (1+57+i*1) [.bool x]=dN X c r (oS t i x)++Lf.sl a::Lf.sl b::lN X:=by
 have:i=0∨i=1∨i=2∨i=3∨i=4∨i=5∨i=6∨i=7:=by omega
 rcases this with rfl|rfl|rfl|rfl|rfl|rfl|rfl|rfl<;>rfl
def fw(v:Qm)(j:Nat):List Sg:=match v.fl j with
 |none=>[]
 |some f=>f.sg
abbrev zF:RF:=(0,0,0,0,0,⟨none,0,0⟩)
def xv(v:Qm)(j:Nat)(s:Sl):RF:=match v.fl j with
 |none=>zF
 |some f=>((j:Int),f.cr,eM v j,f.nx,f.si,s)
abbrev lb(x:RF):Sl:=x.2.2.2.2.2
structure Rq(v:Qm)(r:Nat→RF)(t:Nat→Bool):Prop where
 t:∀j,j<8→t j=(v.fl j).isSome
 r:∀j,j<8→r j=xv v j (lb (r j))
abbrev qQ(r:Nat→RF)(xs:Nat→List Sg):Nat→SP:=λj=>aP (lb (r j)) KS (xs j)
def bP(b:Nat)(X:Cx)(v:Qm):SP:=wZ (λx:(Nat→RF)×(Nat→Bool)=>Rq v x.1 x.2) (λx=>jq b X (dN X v.c x.1 x.2) v.lv^dV (qQ x.1 (fw v)) 8)
instance(b:Nat)(X:Cx)(v:Qm):qq (bP b X v):=by unfold bP;infer_instance
section
variable {w0 w:World} {S0 R0:Nat→Prop} {F G:SP}
theorem _root_.Go.X.au.bP(h:au w0 S0 R0 w F)(b:Nat)(X:Cx)(v:Qm)[tk:Take (E4.bP b X v) F G]:∃r t,Rq v r t∧au w0 S0 R0 w (jq b X (dN X v.c r t) v.lv^dV (qQ r (fw v)) 8^G):=by
 obtain⟨x,hx,h⟩:=(h.le tk.le).t_;exact⟨x.1,x.2,hx,h.aG⟩
theorem _root_.Go.X.au.fe(h:au w0 S0 R0 w F)(b:Nat)(X:Cx)(v:Qm)(r:Nat→RF)(t:Nat→Bool)(hr:Rq v r t)[tk:Take (jq b X (dN X v.c r t) v.lv^dV (qQ r (fw v)) 8) F G]:au w0 S0 R0 w (E4.bP b X v^G):=
 (h.le tk.le).qH (f:=λx:(Nat→RF)×(Nat→Bool)=>jq b X (dN X v.c x.1 x.2) v.lv^dV (qQ x.1 (fw v)) 8) (φ:=λx=>Rq v x.1 x.2) (r,t) hr
theorem _root_.Go.X.au.EY(h:au w0 S0 R0 w F)(r:Nat→RF)(xs:Nat→List Sg){i:Nat}(hi:i<8)[tk:Take (dV (qQ r xs) 8) F G]:au w0 S0 R0 w (aP (lb (r i)) KS (xs i)^dV (td (qQ r xs) i) 8^G):=
 ((h.le tk.le).le (aZ (oq (qQ r xs) hi) Le.rfl)).le (cy _ _ _)
theorem _root_.Go.X.au.HZ(h:au w0 S0 R0 w F)(r r':Nat→RF)(xs ys:Nat→List Sg){i:Nat}(hi:i<8)(hr:∀j,j≠i→r' j=r j)(hx:∀j,j≠i→ys j=xs j)[tk:Take (aP (lb (r' i)) KS (ys i)^dV (td (qQ r xs) i) 8) F G]:au w0 S0 R0 w (dV (qQ r' ys) 8^G):=by
 have e:dV (td (qQ r xs) i) 8=dV (td (qQ r' ys) i) 8:=gQ 8 λj _=>by
  unfold td;split
  ·rfl
  ·rename_i e;show aP _ KS _=aP _ KS _;rw[hr j e,hx j e]
 have h:=h.le tk.le;rw[e]at h;exact h.le (aZ (ra (qQ r' ys) hi) Le.rfl)
end
theorem Rq.none{v:Qm}{r:Nat→RF}{t:Nat→Bool}(h:Rq v r t){i:Nat}(hi:i<8)(hf:v.fl i=none):t i=false∧r i=zF∧fw v i=[]:=by
 have h1:=h.t i hi;have h2:=h.r i hi;unfold xv at h2;rw[hf]at h1 h2;exact⟨h1,h2,by unfold fw;rw[hf]⟩
theorem Rq.some{v:Qm}{r:Nat→RF}{t:Nat→Bool}(h:Rq v r t){i:Nat}(hi:i<8){f:Fl}(hf:v.fl i=some f):t i=true∧r i=((i:Int),f.cr,eM v i,f.nx,f.si,lb (r i))∧fw v i=f.sg:=by
 have h1:=h.t i hi;have h2:=h.r i hi;unfold xv at h2;rw[hf]at h1 h2;exact⟨h1,h2,by unfold fw;rw[hf]⟩
def kG(v:Qm):Int:=match v.ks with
 |[]=>-1
 |k::_=>k.2
def xP(v:Qm)(j:Nat):Int:=match v.fl j with
 |none=>0
 |some f=>da f
def E0(v:Qm)(k:Nat)(x:Int):Prop:=(x=-1∧∀j,j<k→eM v j≠3)∨∃m:Nat,x=(m:Int)∧m<k∧eM v m=3∧∀j,j<k→eM v j=3→xP v m<xP v j∨(xP v m=xP v j∧m≤j)
theorem Fc{v:Qm}(hv:iQ v){x:Int}(h:E0 v 8 x):x=kG v:=by
 have hmem:∀k∈v.ks,∃i:Nat,i<8∧eM v i=3∧k=(xP v i,(i:Int)):=λk hk=>by
  obtain⟨i,f,h1,h2,h3,h4⟩:=(hv.ks k).1 hk;exact⟨i,(hv.fl i f h1).1,va.2 ⟨h3,f,h1,h2⟩,by rw[h4];unfold xP;rw[h1]⟩
 unfold kG;rcases h with⟨e,h⟩|⟨m,e,hm,hp,h⟩
 ·cases hk:v.ks with
  |nil=>exact e
  |cons k l=>
   obtain⟨i,hi,hp,_⟩:=hmem k (by rw[hk];simp);exact absurd hp (h i hi)
 ·obtain⟨h3,f,hf,hs⟩:=va.1 hp;have hin:(xP v m,(m:Int))∈v.ks:=(hv.ks _).2 ⟨m,f,hf,hs,h3,by unfold xP;rw[hf]⟩;cases hk:v.ks with
  |nil=>rw[hk]at hin;cases hin
  |cons k l=>
   obtain⟨i,hi,hpi,he⟩:=hmem k (by rw[hk];simp);have hb:=h i hi hpi;rw[hk]at hin;rcases dO.1 hin with e2|hin
   ·rw[e,←e2]
   ·have hsr:=hv.wI;rw[hk]at hsr;have:=(tq.1 hsr).1 _ hin;rw[pV,he]at this;have h4:xP v i<xP v m∨(xP v i=xP v m∧(i:Int)<(m:Int)):=this;omega
theorem pf(b:Nat)(X:Cx)(v:Qm)(hv:iQ v)(r:Nat→RF)(t:Nat→Bool)(hq:Rq v r t):bm (Kt (some ⟨b,1⟩)) (jq b X (dN X v.c r t) v.lv^dV (qQ r (fw v)) 8) (λx=>bh (x=kG v) (jq b X (dN X v.c r t) v.lv^dV (qQ r (fw v)) 8)):=
 br λw0 S R h=>by
  refine cS (λ_:Int×Int=>jq b X (dN X v.c r t) v.lv^dV (qQ r (fw v)) 8) (λy:Int×Int=>(0≤y.2∧y.2≤8)∧E0 v y.2.toNat y.1) (λy:Int×Int=>(8-y.2).toNat) h ⟨by decide,.inl ⟨rfl,λj hj=>absurd hj (by simp)⟩⟩ ?_;rintro(y0:Int×Int) w ⟨hk,hb⟩ h;obtain⟨x,k⟩:=y0;dsimp only at hk hb;have hwk:IntKind.i64.wrap (k+1)=k+1:=wi (by omega) (by omega);refine ae (λc=>?_) λc=>?_
  ·have c8:k<8:=bV;clear c;obtain⟨j,hj⟩:∃j:Nat,k=(j:Int):=⟨k.toNat,by omega⟩;have hj8:j<8:=(by omega);have hj1:(k+1).toNat=j+1:=(by omega);rw[hj]at hb hwk hj1⊢;rw[eR]at hb;refine aK h (λ_=>jq b X (dN X v.c r t) v.lv^dV (qQ r (fw v)) 8) (λy:Bool=>(y=true→E0 v (j+1) (j:Int))∧(y=false→E0 v (j+1) x)) (λ(y:Bool) w hy h=>?_) ?_
   ·refine ae (λc=>?_) λc=>?_
    ·rw[hwk];exact⟨⟨⟨by show 0≤(j:Int)+1∧(j:Int)+1≤8;omega,by show E0 v ((j:Int)+1).toNat (j:Int);rw[hj1];exact hy.1 c⟩,h⟩,by show(8-((j:Int)+1)).toNat<(8-(j:Int)).toNat;omega⟩
    ·rw[hwk];exact⟨⟨⟨by show 0≤(j:Int)+1∧(j:Int)+1≤8;omega,by show E0 v ((j:Int)+1).toNat x;rw[hj1];exact hy.2 c⟩,h⟩,by show(8-((j:Int)+1)).toNat<(8-(j:Int)).toNat;omega⟩
   ·have skip:eM v j≠3→E0 v (j+1) x:=λhp=>by
     rcases hb with⟨e,h⟩|⟨m,e,hm,hpm,h⟩
     ·exact .inl ⟨e,λq hq=>by
       by_cases e2:q=j
       ·rw[e2];exact hp
       ·exact h q (by omega)⟩
     ·exact .inr ⟨m,e,by omega,hpm,λq hq hpq=>by
       by_cases e2:q=j
       ·rw[e2]at hpq;exact absurd hpq hp
       ·exact h q (by omega) hpq⟩
    obtain⟨s1,s2,h⟩:=h.jq b X (dN X v.c r t) v.lv;refine aH h λw h=>ac ⟨by omega,?_⟩;rw[eR];refine aj h (Ez X v.c r t s1 s2 hj8) ?_;cases hf:v.fl j with
    |none=>
     rw[(hq.none hj8 hf).1];refine ae (λc=>(by cases c)) λ_=>⟨⟨λe=>(by cases e),λ_=>skip λe=>?_⟩,(h.dv b X (dN X v.c r t) s1 s2 v.lv).aG⟩;obtain⟨_,f,hf2,_⟩:=va.1 e;rw[hf]at hf2;cases hf2
    |some f=>
     obtain⟨q1,q2,q3⟩:=hq.some hj8 hf;rw[q1];refine ae (λ_=>?_) λc=>(by cases c);refine ac ⟨by omega,?_⟩;refine aj h (CJ X v.c r t s1 s2 hj8) ?_;have e2:(r j).2.2.1=eM v j:=by rw[q2]
     rw[e2];refine ae (λc=>?_) λc=>?_
     ·have hp:eM v j=3:=bV;obtain⟨_,f',hf',hs⟩:=va.1 hp;rw[hf]at hf';cases hf';refine ae (λc2=>?_) λc2=>?_
      ·have c2:x<0:=gk;refine⟨⟨λ_=>?_,λe=>(by cases e)⟩,(h.dv b X (dN X v.c r t) s1 s2 v.lv).aG⟩;rcases hb with⟨e,h⟩|⟨m,e,_⟩
       ·exact .inr ⟨j,rfl,by omega,hp,λq hq hpq=>by
         by_cases e2:q=j
         ·rw[e2];exact .inr ⟨rfl,fa _⟩
         ·exact absurd hpq (h q (by omega))⟩
       ·omega
      ·have c2:¬x<0:=gk;obtain⟨m,e,hm,hpm,hbm⟩:∃m:Nat,x=(m:Int)∧m<j∧eM v m=3∧∀q,q<j→eM v q=3→xP v m<xP v q∨(xP v m=xP v q∧m≤q):=by
        rcases hb with⟨e,_⟩|h
        ·omega
        ·exact h
       have hm8:m<8:=(by omega);obtain⟨_,g,hg,hgs⟩:=va.1 hpm;obtain⟨p1,p2,p3⟩:=hq.some hm8 hg;have hmx:x.toNat=m:=(by omega);refine ac (ac ⟨by omega,by omega,?_⟩);dsimp only;rw[hmx];refine aj h (Bn X v.c r t s1 s2 hj8) (aj h (Bn X v.c r t s1 s2 hm8) ?_);cases hss:f.sg with
       |nil=>exact absurd hss hs
       |cons a1 l1=>
       cases hgg:g.sg with
       |nil=>exact absurd hgg hgs
       |cons a2 l2=>
       rw[hss]at q3;rw[hgg]at p3;have h:=h.EY r (fw v) hj8;rw[q3]at h;refine bI (qZ (r j) a1 l1) h λr13 w h=>?_;obtain⟨hr13,h⟩:=h.aB;rw[hr13];have h:=h.HZ r r (fw v) (fw v) hj8 (λ_ _=>rfl) (λ_ _=>rfl) (tk:=by rw[q3];infer_instance);refine aI h (Ua X v.c r t s1 s2 hm8) ?_;have h:=h.EY r (fw v) hm8;rw[p3]at h;refine bI (qZ (r m) a2 l2) h λr14 w h=>?_;obtain⟨hr14,h⟩:=h.aB;rw[hr14];have h:=h.HZ r r (fw v) (fw v) hm8 (λ_ _=>rfl) (λ_ _=>rfl) (tk:=by rw[p3];infer_instance);have t1:(if ur a1>(r j).2.2.2.1 then ur a1 else(r j).2.2.2.1)=xP v j:=by
        have:(r j).2.2.2.1=f.nx:=(by rw[q2]);rw[this];unfold xP da;rw[hf];simp only;rw[hss]
       have t2:(if ur a2>(r m).2.2.2.1 then ur a2 else(r m).2.2.2.1)=xP v m:=by
        have:(r m).2.2.2.1=g.nx:=(by rw[p2]);rw[this];unfold xP da;rw[hg];simp only;rw[hgg]
       rw[t1,t2];refine⟨⟨λc=>?_,λc=>?_⟩,(h.dv b X (dN X v.c r t) s1 s2 v.lv).aG⟩
       ·have c:xP v j<xP v m:=bJ c;refine .inr ⟨j,rfl,by omega,hp,λq hq hpq=>?_⟩;by_cases e2:q=j
        ·rw[e2];exact .inr ⟨rfl,fa _⟩
        ·have:=hbm q (by omega) hpq;left;omega
       ·have c:¬xP v j<xP v m:=bQ c;refine .inr ⟨m,e,by omega,hpm,λq hq hpq=>?_⟩;by_cases e2:q=j
        ·rw[e2];omega
        ·exact hbm q (by omega) hpq
     ·have hp:eM v j≠3:=bV;exact⟨⟨λe=>(by cases e),λ_=>skip hp⟩,(h.dv b X (dN X v.c r t) s1 s2 v.lv).aG⟩
  ·have c:¬k<8:=bV;have e:k.toNat=8:=(by omega);rw[e]at hb;exact au.aE (Fc hv hb) h
end E4

namespace NM
open bB bi ff EW _root_.Go.X.Tree iy kj lp fg lK lV C7 wP wR ET EU JY JS NW Qq E4
def pZ(lv:LV)(i p:Int):LV:=if p=2 then((dm lv i).1,(dm lv i).2++[i])else dm lv i
abbrev wb(x:RF)(p:Int):RF:=(x.1,x.2.1,p,x.2.2.2.1,x.2.2.2.2.1,x.2.2.2.2.2)
theorem vb(b:Nat)(X:Cx)(c:Cf)(r:Nat→RF)(t:Nat→Bool)(lv:LV)(hv:vH lv)(i:Nat)(hi:i<8)(p:Int)(hp:p≠1):bm (Fo (some ⟨b,1⟩) (i:Int) p) (jq b X (dN X c r t) lv) (λ_=>jq b X (dN X c (fQ r i (wb (r i) p)) t) (pZ lv (i:Int) p)):=
 br λw0 S R h=>by
  have hl:=hv.FE;have ho:=hv.out (i:Int);have hol:=ho.FE;refine ac (af (uZ b X (dN X c r t) (1+65) rfl lv (i:Int) (by omega)) (h.le (aF _)) λ_ w h=>?_);obtain⟨_,h⟩:=h.aB;rw[show(jl lv (i:Int)).2=dm lv (i:Int)from rfl]at h;obtain⟨s1,s2,h⟩:=h.jq b X (dN X c r t) (dm lv (i:Int));refine ac ⟨by omega,?_⟩;rw[eR];refine az h b (dN X c (fQ r i (wb (r i) p)) t++.sl s1:: .sl s2::lN X) rfl (iD (by show 1+9+i*6+2+1≤140;omega)) (M9 X c r t s1 s2 hi p) λw h=>?_;have h:=h.dv b X (dN X c (fQ r i (wb (r i) p)) t) s1 s2 (dm lv (i:Int));have e1:(p==(1:Int))=false:=by simpa using hp
  refine ae (λc1=>?_) λc1=>?_
  ·have c1:p=2:=by
    rw[e1,zj]at c1;simpa using c1
   rw[e1];refine ac (af (yQ b X (dN X c (fQ r i (wb (r i) p)) t) (1+65) rfl (dm lv (i:Int)) (i:Int) false (by omega)) h λ_ w h=>?_);obtain⟨_,h⟩:=h.aB;have hpl:bH (dm lv (i:Int)) (i:Int)=0:=lD.2 (v_ lv (i:Int));have e:(jX (dm lv (i:Int)) (i:Int) false).2=pZ lv (i:Int) p:=by
    rw[jX,ay (by omega),ay (by rw[hpl];simp),ay (by simp)];unfold pZ;rw[aC c1]
   rw[e]at h;exact h.aG
  ·have c1:¬p=2:=by
    rw[e1,zj]at c1;simpa using c1
   have e:pZ lv (i:Int) p=dm lv (i:Int):=(by unfold pZ;rw[ay c1]);rw[e];exact h.aG
theorem CG(b:Nat)(X:Cx)(v:Qm)(hv:iQ v)(ao:Int):bm (SJ (some ⟨b,1⟩) ao) (bP b X v) (λ_=>bP b X (bD v ao)):=
 br λw0 S R h=>by
  have h:au w0 S R w0 (bP b X (bX v ao (0:Int).toNat)):=by
   have e:bX v ao (0:Int).toNat=v:=(by unfold bX;simp);rw[e];exact h
  refine cS (λy:Int=>bP b X (bX v ao y.toNat)) (λy:Int=>0≤y∧y≤8) (λy:Int=>(8-y).toNat) h ⟨by decide,by decide⟩ ?_;rintro(k:Int) w hk h;have hwk:IntKind.i64.wrap (k+1)=k+1:=wi (by omega) (by omega);refine ae (λc=>?_) λc=>?_
  ·have c8:k<8:=bV;clear c;obtain⟨j,hj⟩:∃j:Nat,k=(j:Int):=⟨k.toNat,by omega⟩;have hj8:j<8:=(by omega);have hj1:(k+1).toNat=j+1:=(by omega);rw[hj]at h hwk hj1⊢;rw[eR]at h;obtain⟨r,t,hq,h⟩:=h.bP b X (bX v ao j);have hfj:(bX v ao j).fl j=v.fl j:=(by unfold bX;simp);have hid:=yk v ao j;have hpl:eM (bX v ao j) j=eM v j:=(by unfold eM;rw[hfj]);have up:idle v j 3000000000 ao=false→bX v ao (j+1)=bX v ao j:=λe=>by
    unfold bX
    congr 1
    funext q
    have:(q<j+1∧idle v q 3000000000 ao=true)↔(q<j∧idle v q 3000000000 ao=true):=⟨λh=>⟨by
     have:q≠j:=λe2=>by have:=h.2;rw[e2,e]at this;cases this
     omega,h.2⟩,λh=>⟨by omega,h.2⟩⟩
    by_cases h:q<j∧idle v q 3000000000 ao=true
    ·rw[aC h,aC (this.2 h)]
    ·rw[ay h,ay (λx=>h (this.1 x))]
   refine aK h (λ_=>jq b X (dN X v.c r t) v.lv^dV (qQ r (fw (bX v ao j))) 8) (λy:Bool=>y=idle v j 3000000000 ao) (λ(y:Bool) w hy h=>?_) ?_
   ·rw[hy];refine ae (λc=>?_) λc=>?_
    ·obtain⟨f,hf,hs,hnl⟩:=pj c;obtain⟨s1,s2,h⟩:=h.jq b X (dN X v.c r t) v.lv;refine aH h λw h=>ac (ac ⟨by omega,?_⟩);rw[eR];refine az h b (dN X v.c r (oS t j false)++.sl s1:: .sl s2::lN X) rfl (iD (by show 1+57+j*1+1≤140;omega)) (GR X v.c r t s1 s2 hj8 false) λw h=>⟨by omega,?_⟩;refine az h b (dN X v.c (fQ r j zF) (oS t j false)++.sl s1:: .sl s2::lN X) rfl (iD (by show 1+9+j*6+6≤140;omega)) (M8 X v.c r (oS t j false) s1 s2 hj8 zF) λw h=>?_;have h:=h.dv b X (dN X v.c (fQ r j zF) (oS t j false)) s1 s2 v.lv;have h:=h.EY r (fw (bX v ao j)) hj8;have h:=h.nil KS;have hfn:(bX v ao (j+1)).fl j=none:=by unfold bX;exact aC ⟨by omega,c⟩
     have hfo:∀q,q≠j→(bX v ao (j+1)).fl q=(bX v ao j).fl q:=λq e=>by
      unfold bX;have:(q<j+1∧idle v q 3000000000 ao=true)↔(q<j∧idle v q 3000000000 ao=true):=⟨λh=>⟨by omega,h.2⟩,λh=>⟨by omega,h.2⟩⟩;simp only;by_cases h:q<j∧idle v q 3000000000 ao=true
      ·rw[aC h,aC (this.2 h)]
      ·rw[ay h,ay (λx=>h (this.1 x))]
     have hsn:fw (bX v ao (j+1)) j=[]:=(by unfold fw;rw[hfn]);have h:=h.HZ r (fQ r j zF) (fw (bX v ao j)) (fw (bX v ao (j+1))) hj8 (λq e=>fE _ _ e) (λq e=>by unfold fw;rw[hfo q e]) (tk:=by rw[hsn,cO];infer_instance);have hq2:Rq (bX v ao (j+1)) (fQ r j zF) (oS t j false):=⟨λq hq8=>by
      by_cases e:q=j
      ·rw[e,vD,hfn];rfl
      ·rw[CV _ _ e,hfo q e];exact hq.t q hq8,λq hq8=>by
      by_cases e:q=j
      ·rw[e,cO];unfold xv;rw[hfn]
      ·rw[fE _ _ e];have:=hq.r q hq8;unfold xv at this⊢;rw[hfo q e];have hp2:eM (bX v ao (j+1)) q=eM (bX v ao j) q:=by unfold eM;rw[hfo q e]
       rw[hp2];exact this⟩
     rw[hwk];refine⟨⟨by omega,?_⟩,by omega⟩;rw[hj1];exact(h.fe b X (bX v ao (j+1)) (fQ r j zF) (oS t j false) hq2).aG
    ·rw[hwk];refine⟨⟨by omega,?_⟩,by omega⟩;rw[hj1,up c];exact(h.fe b X (bX v ao j) r t hq).aG
   ·obtain⟨s1,s2,h⟩:=h.jq b X (dN X v.c r t) v.lv;refine ac ⟨by omega,?_⟩;rw[eR];refine aj h (Ez X v.c r t s1 s2 hj8) ?_;cases hf:v.fl j with
    |none=>
     rw[(hq.none hj8 (hfj.trans hf)).1];refine ae (λc=>(by cases c)) λ_=>⟨?_,(h.dv b X (dN X v.c r t) s1 s2 v.lv).aG⟩;unfold idle;rw[hf]
    |some f=>
     obtain⟨q1,q2,q3⟩:=hq.some hj8 (hfj.trans hf);rw[q1];refine ae (λ_=>?_) λc=>(by cases c);refine ac ⟨by omega,aj h (CJ X v.c r t s1 s2 hj8) ?_⟩;have e2:(r j).2.2.1=eM v j:=by rw[q2,hpl]
     rw[e2];refine ae (λc=>?_) λc=>?_
     ·have hp:eM v j=0:=bV;refine ac ⟨by omega,aj h (M6 X v.c r t s1 s2 hj8) ?_⟩;have e4:(r j).2.2.2.2.1=f.si:=(by rw[q2]);rw[e4];refine af (fz f.si 3000000000 (hv.fl j f hf).2.si (by unfold U;omega)) h λx w h=>?_;obtain⟨hx,h⟩:=h.aB;rw[hx];refine⟨?_,(h.dv b X (dN X v.c r t) s1 s2 v.lv).aG⟩;unfold idle;rw[hf];simp[hp]
     ·have hp:¬eM v j=0:=bV;refine⟨?_,(h.dv b X (dN X v.c r t) s1 s2 v.lv).aG⟩;unfold idle;rw[hf];simp[hp]
  ·have c:¬k<8:=bV;have e:k.toNat=8:=(by omega);rw[e]at h;obtain⟨r,t,hq,h⟩:=h.bP b X (bX v ao 8);have hfo:∀q,q<8→(bD v ao).fl q=(bX v ao 8).fl q:=λq hq=>by
    show(if _ then _ else _)=(if _ then _ else _);by_cases h:idle v q 3000000000 ao=true
    ·rw[aC h,aC ⟨hq,h⟩]
    ·rw[ay h,ay (λx=>h x.2)]
   have hq2:Rq (bD v ao) r t:=⟨λq hq8=>by rw[hfo q hq8];exact hq.t q hq8,λq hq8=>by
    have:=hq.r q hq8;unfold xv at this⊢;rw[hfo q hq8];have hp2:eM (bD v ao) q=eM (bX v ao 8) q:=(by unfold eM;rw[hfo q hq8]);rw[hp2];exact this⟩
   have e2:dV (qQ r (fw (bX v ao 8))) 8=dV (qQ r (fw (bD v ao))) 8:=gQ 8 λq hq8=>by
    show aP _ KS (fw _ q)=aP _ KS (fw _ q);unfold fw;rw[hfo q hq8]
   rw[e2]at h;exact(h.fe b X (bD v ao) r t hq2).aG
theorem Ex(b:Nat)(X:Cx)(v:Qm)(hv:iQ v)(r:Nat→RF)(t:Nat→Bool)(hq:Rq v r t):bm (Wx (some ⟨b,1⟩)) (jq b X (dN X v.c r t) v.lv^dV (qQ r (fw v)) 8) (λx=>bh (x=v.n) (jq b X (dN X v.c r t) v.lv^dV (qQ r (fw v)) 8)):=
 br λw0 S R h=>by
  refine cS (λ_:Int×Int=>jq b X (dN X v.c r t) v.lv^dV (qQ r (fw v)) 8) (λy:Int×Int=>(0≤y.2∧y.2≤8)∧y.1=EL v.fl y.2.toNat∧y.1≤512*y.2) (λy:Int×Int=>(8-y.2).toNat) h ⟨by decide,rfl,by decide⟩ ?_;rintro(y0:Int×Int) w ⟨hk,hb,hb2⟩ h;obtain⟨x,k⟩:=y0;dsimp only at hk hb hb2;have hwk:IntKind.i64.wrap (k+1)=k+1:=wi (by omega) (by omega);have hx0:0≤x:=by rw[hb];exact CQ _ _
  refine ae (λc=>?_) λc=>?_
  ·have c8:k<8:=bV;clear c;obtain⟨j,hj⟩:∃j:Nat,k=(j:Int):=⟨k.toNat,by omega⟩;have hj8:j<8:=(by omega);have hj1:(k+1).toNat=j+1:=(by omega);rw[hj]at hb hwk hj1 hb2⊢;rw[eR]at hb;obtain⟨s1,s2,h⟩:=h.jq b X (dN X v.c r t) v.lv;refine ac ⟨by omega,?_⟩;rw[eR];refine aj h (rS X v.c r t s1 s2 hj8) ?_;have h:=h.EY r (fw v) hj8;have hsl:=(h.rd (s:=lb (r j))).2;have h:=h.HZ r r (fw v) (fw v) hj8 (λ_ _=>rfl) (λ_ _=>rfl);have hcn:(((lb (r j)).len:Nat):Int)=vG (v.fl j)∧vG (v.fl j)≤512:=by
    rw[hsl];unfold fw;cases hf:v.fl j with
    |none=>exact⟨rfl,by decide⟩
    |some f=>
     have:=(hv.len hf).2;exact⟨rfl,by show((f.sg.length:Nat):Int)≤512;omega⟩
   have hwx:IntKind.i64.wrap (x+(((lb (r j)).len:Nat):Int))=x+vG (v.fl j):=(by rw[hcn.1];exact wi (by have:=Ft (v.fl j);omega) (by omega));rw[hwk];rw[show IntKind.i64.wrap ((x,(j:Int)).1+(((r j).2.2.2.2.2.len:Nat):Int))=x+vG (v.fl j)from hwx];refine⟨⟨⟨by show 0≤(j:Int)+1∧(j:Int)+1≤8;omega,?_,by show x+vG (v.fl j)≤512*((j:Int)+1);omega⟩,(h.dv b X (dN X v.c r t) s1 s2 v.lv).aG⟩,by show(8-((j:Int)+1)).toNat<(8-(j:Int)).toNat;omega⟩;show x+vG (v.fl j)=EL v.fl ((j:Int)+1).toNat;rw[hj1,hb];rfl
  ·have c:¬k<8:=bV;have e:k.toNat=8:=(by omega);rw[e]at hb;exact au.aE (hb.trans hv.n.symm) h
theorem MX(b:Nat)(X:Cx)(v:Qm)(hv:iQ v):bm (WG (some ⟨b,1⟩)) (bP b X v) (λx=>bh (x=((ni v.ks).1.1,(ni v.ks).2)) (bP b X v)):=
 br λw0 S R h=>by
  obtain⟨r,t,hq,h⟩:=(h.le (aF _)).bP b X v;refine af (pf b X v hv r t hq) h λx w h=>?_;obtain⟨hx,h⟩:=h.aB;rw[hx];cases hks:v.ks with
  |nil=>
   have e:kG v=-1:=(by unfold kG;rw[hks]);rw[e];refine ae (λ_=>?_) λc=>(by cases c);exact au.aE rfl (h.fe b X v r t hq).aG
  |cons k l=>
   obtain⟨i,f,hf,hs,hni,he⟩:=(hv.ks k).1 (by rw[hks];simp);have hi8:=(hv.fl i f hf).1;have e:kG v=(i:Int):=by unfold kG;rw[hks,he]
   rw[e];refine ae (λc=>?_) λ_=>?_
   ·exfalso;have c:(i:Int)<0:=bV;omega
   obtain⟨q1,q2,q3⟩:=hq.some hi8 hf;obtain⟨s1,s2,h⟩:=h.jq b X (dN X v.c r t) v.lv;refine ac ⟨by omega,?_⟩;rw[eR];refine aj h (Bn X v.c r t s1 s2 hi8) ?_;cases hss:f.sg with
   |nil=>exact absurd hss hs
   |cons a1 l1=>
   rw[hss]at q3;have h:=h.EY r (fw v) hi8;rw[q3]at h;refine bI (qZ (r i) a1 l1) h λr13 w h=>?_;obtain⟨hr13,h⟩:=h.aB;rw[hr13];have h:=h.HZ r r (fw v) (fw v) hi8 (λ_ _=>rfl) (λ_ _=>rfl) (tk:=by rw[q3];infer_instance);have h:=h.dv b X (dN X v.c r t) s1 s2 v.lv;refine au.aE ?_ (h.fe b X v r t hq).aG;have e3:(r i).2.2.2.1=f.nx:=by rw[q2]
   rw[e3];have e4:(if ur a1>f.nx then ur a1 else f.nx)=da f:=by unfold da;rw[hss]
   rw[e4,he]
   rfl
abbrev zFL:List Lf:=[.int .i64 0,.int .i64 0,.int .i64 0,.int .u64 0,.int .u64 0,.sl ⟨none,0,0⟩]
theorem Jv(b:Nat)(X:Cx)(v:Qm)(hv:iQ v)(i:Int):bm (XH (some ⟨b,1⟩) i) (bP b X v) (λx=>ex λs:Sl=>bh (x=nV v i s) (aP s KS (EX v i)^bP b X v)):=
 br λw0 S R h=>by
  refine aA h λn1 w h=>?_;have no:∀{w:World},pS v i=false→au w0 S R w (ah n1 zFL^bP b X v)→au w0 S R w (ex λs:Sl=>bh ((D6,false)=nV v i s) (aP s KS (EX v i)^bP b X v)):=λ{w} hh h=>by
   have h:=h.nil KS;have e:EX v i=[]:=(by unfold EX;rw[ay (by rw[hh];simp)]);refine au.gX ⟨none,0,0⟩ (au.aE ?_ ?_)
   ·unfold nV;rw[ay (by rw[hh];simp)]
   ·rw[e];exact h.aG
  refine aK h (λ_=>ah n1 zFL^bP b X v) (λ_=>pS v i=true) (λ_ w hh h=>?_) ?_
  ·have hh':=hh;unfold pS at hh';simp only[fG,gK,qx]at hh';obtain⟨hi,f,hf⟩:=hh';have hi8:i.toNat<8:=(by omega);have hlen:=(hv.len hf).2;have e:EX v i=f.sg:=(by unfold EX;rw[aC hh,hf]);obtain⟨r,t,hq,h⟩:=h.bP b X v;obtain⟨q1,q2,q3⟩:=hq.some hi8 hf;obtain⟨s1,s2,h⟩:=h.jq b X (dN X v.c r t) v.lv;refine ac ⟨by omega,aj h (Bn X v.c r t s1 s2 hi8) ?_⟩;refine aA h λn10 w h=>aw h (by rfl) λw h=>aj h rfl ?_;have h:=h.EY r (fw v) hi8;rw[q3]at h;have h:=h.nil KS;refine dE (K:=KS) (s:=⟨none,0,0⟩) (x:=lb (r i.toNat)) (xs:=[]) (ys:=f.sg) h rfl (by simpa using by omega) λxM w _ h=>?_;have hii:((i.toNat:Nat):Int)=i:=(by omega);refine az h n10 (Ks.mk KF (i,f.cr,eM v i.toNat,f.nx,f.si,xM)) rfl rfl (by rw[q2,hii];rfl) λw h=>?_;refine ar (b:=n10) (x:=(i,f.cr,eM v i.toNat,f.nx,f.si,xM)) h rfl (aw h (by rfl) λw h=>ar (b:=n1) (x:=(i,f.cr,eM v i.toNat,f.nx,f.si,xM)) h rfl ?_);have h:=h.eB (s:=xM) (K:=KS) (ys:=f.sg) rfl;have h:=h.HZ r r (fw v) (fw v) hi8 (λ_ _=>rfl) (λ_ _=>rfl) (tk:=by rw[q3];infer_instance);have h:=h.dv b X (dN X v.c r t) s1 s2 v.lv;have h:=h.fe b X v r t hq;refine au.gX xM (au.aE ?_ ?_)
   ·unfold nV;rw[aC hh,hf]
   ·rw[e];exact h.aG
  ·refine ae (λc=>?_) λc=>?_
   ·have c:i<0∨i≥8:=bV;refine aw h (by rfl) λw h=>ar (b:=n1) (x:=D6) h rfl ?_;refine no ?_ h.aG;unfold pS;rw[Bool.and_eq_false_iff];left;rw[Es];omega
   ·have c:¬(i<0∨i≥8):=bV;obtain⟨r,t,hq,h⟩:=h.bP b X v;have hi8:i.toNat<8:=(by omega);obtain⟨s1,s2,h⟩:=h.jq b X (dN X v.c r t) v.lv;refine ac ⟨by omega,aj h (Ez X v.c r t s1 s2 hi8) ?_⟩;have ht:=hq.t i.toNat hi8;have h:=h.dv b X (dN X v.c r t) s1 s2 v.lv;have h:=h.fe b X v r t hq;have hh:pS v i=(v.fl i.toNat).isSome:=(by unfold pS;rw[kV (show 0≤i∧i≤7 by omega),Bool.true_and]);refine ae (λc2=>?_) λc2=>?_
    ·have c2:t i.toNat=false:=gk;refine aw h (by rfl) λw h=>ar (b:=n1) (x:=D6) h rfl ?_;exact no (by rw[hh,←ht];exact c2) h.aG
    ·have c2:t i.toNat=true:=gk;exact⟨by rw[hh,←ht];exact c2,h.aG⟩
theorem wG(v:Qm)(i:Nat)(x:Option Fl)(lv:LV)(ks:List Key)(n:Int){j:Nat}(e:j≠i):fw {v with fl:=jT v.fl i x,lv:=lv,ks:=ks,n:=n} j=fw v j:=by
 unfold fw;show(match jT v.fl i x j with|none=>[]|some f=>f.sg)=_;rw[dX _ _ e]
 try rfl
theorem jR{u v:Qm}{j:Nat}(hf:u.fl j=v.fl j)(hl:bH u.lv (j:Int)=bH v.lv (j:Int)):eM u j=eM v j:=by unfold eM;rw[hf,hl]
theorem wc(lv:LV){i j:Int}(h:j≠i):bH (dm lv i) j=bH lv j:=by
 unfold bH dm;simp only[tv,gK,ne_eq];simp[h]
theorem GB(b:Nat)(X:Cx)(v:Qm)(hv:iQ v)(i:Int):bm (RQ (some ⟨b,1⟩) i) (bP b X v) (λx=>aP x KS (cw v i).1^bP b X (cw v i).2):=
 br λw0 S R h=>by
  refine aK h (λ_=>bP b X v) (λ_=>(0≤i∧i≤7)∧∃f,v.fl i.toNat=some f) (λ_ w hh h=>?_) ?_
  ·obtain⟨hi,f,hf⟩:=hh;have hi8:i.toNat<8:=by omega
   have hl:=hv.lv.FE;obtain⟨r,t,hq,h⟩:=(h.le (aF _)).bP b X v;obtain⟨q1,q2,q3⟩:=hq.some hi8 hf;obtain⟨s1,s2,h⟩:=h.jq b X (dN X v.c r t) v.lv;refine ac ⟨by omega,aj h (rS X v.c r t s1 s2 hi8) ?_⟩;have h:=h.dv b X (dN X v.c r t) s1 s2 v.lv;refine ac (af (uZ b X (dN X v.c r t) (1+65) rfl v.lv i (by omega)) h λ_ w h=>?_);obtain⟨_,h⟩:=h.aB;rw[show(jl v.lv i).2=dm v.lv i from rfl]at h;obtain⟨s1,s2,h⟩:=h.jq b X (dN X v.c r t) (dm v.lv i);refine aH h λw h=>ac (ac ⟨by omega,?_⟩);refine az h b (dN X v.c r (oS t i.toNat false)++.sl s1:: .sl s2::lN X) rfl (iD (by show 1+57+i.toNat*1+1≤140;omega)) (GR X v.c r t s1 s2 hi8 false) λw h=>⟨by omega,?_⟩;refine az h b (dN X v.c (fQ r i.toNat zF) (oS t i.toNat false)++.sl s1:: .sl s2::lN X) rfl (iD (by show 1+9+i.toNat*6+6≤140;omega)) (M8 X v.c r (oS t i.toNat false) s1 s2 hi8 zF) λw h=>?_;have h:=h.dv b X (dN X v.c (fQ r i.toNat zF) (oS t i.toNat false)) s1 s2 (dm v.lv i);have h:=h.EY r (fw v) hi8;rw[q3]at h;have h:=h.nil KS;obtain⟨ks',n',hce⟩:∃ks' n',cw v i=(f.sg,{v with fl:=jT v.fl i.toNat none,lv:=dm v.lv i,ks:=ks',n:=n'}):=by
    unfold cw;rw[ay (λx=>x hi),hf];exact⟨_,_,rfl⟩
   rw[hce];have hsn:fw {v with fl:=jT v.fl i.toNat none,lv:=dm v.lv i,ks:=ks',n:=n'} i.toNat=[]:=by
    unfold fw;show(match jT v.fl i.toNat none i.toNat with|none=>[]|some f=>f.sg)=_;rw[cg]
   have h:=h.HZ r (fQ r i.toNat zF) (fw v) (fw {v with fl:=jT v.fl i.toNat none,lv:=dm v.lv i,ks:=ks',n:=n'}) hi8 (λq e=>fE _ _ e) (λq e=>wG v i.toNat none _ _ _ e) (tk:=by rw[hsn,cO];infer_instance);have hq2:Rq {v with fl:=jT v.fl i.toNat none,lv:=dm v.lv i,ks:=ks',n:=n'} (fQ r i.toNat zF) (oS t i.toNat false):=⟨λq hq8=>by
    show _=(jT v.fl i.toNat none q).isSome;by_cases e:q=i.toNat
    ·rw[e,vD,cg];rfl
    ·rw[CV _ _ e,dX _ _ e];exact hq.t q hq8,λq hq8=>by
    by_cases e:q=i.toNat
    ·rw[e,cO];unfold xv;rw[show({v with fl:=jT v.fl i.toNat none,lv:=dm v.lv i,ks:=ks',n:=n'}:Qm).fl i.toNat=none from cg _ _ _]
    ·rw[fE _ _ e];have:=hq.r q hq8;unfold xv at this⊢;rw[show({v with fl:=jT v.fl i.toNat none,lv:=dm v.lv i,ks:=ks',n:=n'}:Qm).fl q=v.fl q from dX _ _ e];rw[jR (u:={v with fl:=jT v.fl i.toNat none,lv:=dm v.lv i,ks:=ks',n:=n'}) (v:=v) (dX _ _ e) (wc v.lv (by omega))];exact this⟩
   have h:=h.fe b X {v with fl:=jT v.fl i.toNat none,lv:=dm v.lv i,ks:=ks',n:=n'} (fQ r i.toNat zF) (oS t i.toNat false) hq2;exact h.aG
  ·have none_:∀{w:World},cw v i=([],v)→au w0 S R w (bP b X v)→au w0 S R w (aP ⟨none,0,0⟩ KS (cw v i).1^bP b X (cw v i).2):=λ{w} e h=>by
    rw[e];exact((h.le (aF _)).nil KS).aG
   refine ae (λc=>?_) λc=>?_
   ·have c:i<0∨i≥8:=bV;refine none_ ?_ h;unfold cw;rw[aC (by omega)]
   ·have c:¬(i<0∨i≥8):=bV;have hi8:i.toNat<8:=(by omega);obtain⟨r,t,hq,h⟩:=(h.le (aF _)).bP b X v;obtain⟨s1,s2,h⟩:=h.jq b X (dN X v.c r t) v.lv;refine ac ⟨by omega,aj h (Ez X v.c r t s1 s2 hi8) ?_⟩;have ht:=hq.t i.toNat hi8;have h:=h.dv b X (dN X v.c r t) s1 s2 v.lv;have h:=h.fe b X v r t hq;refine ae (λc2=>?_) λc2=>?_
    ·have c2:t i.toNat=false:=gk;refine none_ ?_ h.aG;unfold cw;rw[ay (by omega)];cases hf:v.fl i.toNat with
     |none=>rfl
     |some f=>rw[ht,hf]at c2;cases c2
    ·have c2:t i.toNat=true:=gk;refine⟨⟨by omega,?_⟩,h.aG⟩;cases hf:v.fl i.toNat with
     |none=>rw[ht,hf]at c2;cases c2
     |some f=>exact⟨f,rfl⟩
end NM

namespace Rc
open bB bi ff EW lK lV E4 z9
abbrev mB(X:Cx)(c:Cf)(r:Nat→RF)(t:Nat→Bool)(a b:Sl):List Lf:=dN X c r t++.sl a:: .sl b::lN X
section
variable (X:Cx) (c:Cf) (r:Nat→RF) (t:Nat→Bool) (a b:Sl) {i:Nat} (hi:i<8)
include hi
theorem Rv:Ks.un [.int .i64,.int .i64,.int .i64,.int .i64,.int .i64,.int .i64,.int .i64,.int .i64] (((mB X c r t a b).drop (68+i*8)).take 8)=some (X.k i):=by
 have:i=0∨i=1∨i=2∨i=3∨i=4∨i=5∨i=6∨i=7:=by omega
 rcases this with rfl|rfl|rfl|rfl|rfl|rfl|rfl|rfl<;>rfl
theorem QC:Ks.un [.int .i64] (((mB X c r t a b).drop (68+i*8+7)).take 1)=some (sW (X.k i)):=by
 have:i=0∨i=1∨i=2∨i=3∨i=4∨i=5∨i=6∨i=7:=by omega
 rcases this with rfl|rfl|rfl|rfl|rfl|rfl|rfl|rfl<;>rfl
theorem Vj(x:Int):dj (mB X c r t a b) (68+i*8) [.int .i64 x]=mB {X with k:=gy X.k i (x,(X.k i).2)} c r t a b:=by
 have:i=0∨i=1∨i=2∨i=3∨i=4∨i=5∨i=6∨i=7:=by omega
 rcases this with rfl|rfl|rfl|rfl|rfl|rfl|rfl|rfl<;>rfl
theorem QB(x:Int):dj (mB X c r t a b) (68+i*8+7) [.int .i64 x]=mB {X with k:=gy X.k i (wait (X.k i) x)} c r t a b:=by
 have:i=0∨i=1∨i=2∨i=3∨i=4∨i=5∨i=6∨i=7:=by omega
 rcases this with rfl|rfl|rfl|rfl|rfl|rfl|rfl|rfl<;>rfl
theorem VS:Ks.un [.ptr] (((mB X c r t a b).drop (0+132+i*1)).take 1)=some (X.p i):=by
 have:i=0∨i=1∨i=2∨i=3∨i=4∨i=5∨i=6∨i=7:=by omega
 rcases this with rfl|rfl|rfl|rfl|rfl|rfl|rfl|rfl<;>rfl
theorem VT(x:Option Pt):dj (mB X c r t a b) (0+132+i*1) [.ptr x]=mB {X with p:=gy X.p i x} c r t a b:=by
 have:i=0∨i=1∨i=2∨i=3∨i=4∨i=5∨i=6∨i=7:=by omega
 rcases this with rfl|rfl|rfl|rfl|rfl|rfl|rfl|rfl<;>rfl
end
def Nl(c:Ct)(f:Nat)(x:Int):Ct:=
 if f=0 then(c.1,x,c.2.2.1,c.2.2.2.1,c.2.2.2.2.1,c.2.2.2.2.2.1,c.2.2.2.2.2.2.1,c.2.2.2.2.2.2.2)
 else if f=1 then(c.1,c.2.1,x,c.2.2.2.1,c.2.2.2.2.1,c.2.2.2.2.2.1,c.2.2.2.2.2.2.1,c.2.2.2.2.2.2.2)
 else if f=2 then(c.1,c.2.1,c.2.2.1,x,c.2.2.2.2.1,c.2.2.2.2.2.1,c.2.2.2.2.2.2.1,c.2.2.2.2.2.2.2)
 else if f=3 then(c.1,c.2.1,c.2.2.1,c.2.2.2.1,x,c.2.2.2.2.2.1,c.2.2.2.2.2.2.1,c.2.2.2.2.2.2.2)
 else if f=4 then(c.1,c.2.1,c.2.2.1,c.2.2.2.1,c.2.2.2.2.1,x,c.2.2.2.2.2.2.1,c.2.2.2.2.2.2.2)
 else(c.1,c.2.1,c.2.2.1,c.2.2.2.1,c.2.2.2.2.1,c.2.2.2.2.2.1,x,c.2.2.2.2.2.2.2)
theorem QL{f:Nat}(h:f<6):f=0∨f=1∨f=2∨f=3∨f=4∨f=5:=by omega
theorem Ob(c:Ct){f:Nat}(h:f<6):tM c f=Nl c f (inc (Vv c f)):=by
 rcases QL h with rfl|rfl|rfl|rfl|rfl|rfl<;>rfl
theorem Vi(X:Cx)(c:Cf)(r:Nat→RF)(t:Nat→Bool)(a b:Sl){i:Nat}(hi:i<8){f:Nat}(hf:f<6):Ks.un [.int .i64] (((mB X c r t a b).drop (68+i*8+1+f*1)).take 1)=some (Vv (X.k i) f):=by
 have:i=0∨i=1∨i=2∨i=3∨i=4∨i=5∨i=6∨i=7:=by omega
 rcases this with rfl|rfl|rfl|rfl|rfl|rfl|rfl|rfl<;>rcases QL hf with rfl|rfl|rfl|rfl|rfl|rfl<;>rfl
theorem Vk(X:Cx)(c:Cf)(r:Nat→RF)(t:Nat→Bool)(a b:Sl){i:Nat}(hi:i<8){f:Nat}(hf:f<6)(x:Int):dj (mB X c r t a b) (68+i*8+1+f*1) [.int .i64 x]=mB {X with k:=gy X.k i (Nl (X.k i) f x)} c r t a b:=by
 have:i=0∨i=1∨i=2∨i=3∨i=4∨i=5∨i=6∨i=7:=by omega
 rcases this with rfl|rfl|rfl|rfl|rfl|rfl|rfl|rfl<;>rcases QL hf with rfl|rfl|rfl|rfl|rfl|rfl<;>rfl
theorem G5{α:Type}(l:Nat→α)(i:Nat)(x y:α):gy (gy l i x) i y=gy l i y:=by
 funext j
 by_cases e:j=i
 ·rw[e,e_,e_]
 ·rw[jM _ _ e,jM _ _ e,jM _ _ e]
def mU(k:Nat→Ct)(s f:Int):Nat→Ct:=
 if s<0∨s≥8 then k else if f<0∨f≥6 then k else if f≠0∧sW (k s.toNat)=0 then k else gy k s.toNat (s,(ik (k s.toNat) f).2.2)
def KL(k l:Nat→Ct):Prop:=∀i,(k i).2=(l i).2
theorem KL.note{k l:Nat→Ct}(h:KL k l)(s f:Int):KL (mU k s f) (fT l s f).2:=by
 unfold mU fT;by_cases hs:s<0∨s≥8
 ·rw[aC hs,aC hs];exact h
 ·rw[ay hs,ay hs];have hi:=h s.toNat;have hn:(ik (k s.toNat) f).2.2=(ik (l s.toNat) f).2.2:=by
   generalize k s.toNat=x at hi⊢;generalize l s.toNat=y at hi⊢;obtain⟨x1,x2⟩:=x;obtain⟨y1,y2⟩:=y;cases hi;unfold ik tM;simp only[wait]
   (repeat' split)<;>rfl
  have same:(ik (l s.toNat) f).2=l s.toNat→KL k (gy l s.toNat (ik (l s.toNat) f).2):=λe=>by rw[e,Nz];exact h
  by_cases hf:f<0∨f≥6
  ·rw[aC hf];exact same (by unfold ik;rw[aC hf])
  ·rw[ay hf];by_cases hw:f≠0∧sW (k s.toNat)=0
   ·rw[aC hw];refine same ?_;unfold ik;rw[ay hf,ay hw.1,aC (by rw[←hw.2];show(l s.toNat).2.2.2.2.2.2.2=(k s.toNat).2.2.2.2.2.2.2;rw[hi])]
   ·rw[ay hw];intro j;show(gy k s.toNat _ j).2=(gy l s.toNat _ j).2;by_cases e:j=s.toNat
    ·rw[e,e_,e_];exact hn
    ·rw[jM _ _ e,jM _ _ e];exact h j
theorem sI(b:Nat)(X:Cx)(v:Qm)(s f:Int):bm (TG (some ⟨b,68⟩) s f) (bP b X v) (λ_=>bP b {X with k:=mU X.k s f} v):=
  br λw0 S R h=>by
    refine ae (λc=>?_) λc=>?_
    · have c:s<0∨s≥8:=bV
      rw[show mU X.k s f=X.k by unfold mU;rw[aC c]];exact h
    have hs:¬(s<0∨s≥8):=bV;clear c;refine ae (λc=>?_) λc=>?_
    · have c:f<0∨f>5:=bV
      rw[show mU X.k s f=X.k by unfold mU;rw[ay hs,aC (by omega)]];exact h
    have hf:¬(f<0∨f>5):=bV;clear c;obtain⟨i,hi⟩:∃i:Nat,s=(i:Int):=⟨s.toNat,by omega⟩;obtain⟨g,hg⟩:∃g:Nat,f=(g:Int):=⟨f.toNat,by omega⟩;have hi8:i<8:=(by omega);have hg6:g<6:=(by omega);obtain⟨r,t,hq,h⟩:=(h.le (aF _)).bP b X v;obtain⟨s1,s2,h⟩:=h.jq b X (dN X v.c r t) v.lv;refine ac ⟨by omega,?_⟩;rw[hi,hg];simp only[eR];have back:∀{w:World} (k:Nat→Ct),au w0 S R w (ah b (mB {X with k:=k} v.c r t s1 s2)^aP s1 KI v.lv.1^aP s2 KI v.lv.2^dV (qQ r (fw v)) 8^aT)→k=mU X.k i g→au w0 S R w (bP b {X with k:=mU X.k i g} v):=λ{w} k h e=>by
      rw[←e];have h:=h.dv b {X with k:=k} (dN {X with k:=k} v.c r t) s1 s2 v.lv;exact(h.fe b {X with k:=k} v r t hq).aG
    refine aK h (λ_=>ah b (mB X v.c r t s1 s2)^aP s1 KI v.lv.1^aP s2 KI v.lv.2^dV (qQ r (fw v)) 8^aT) (λ_=>¬(g≠0∧sW (X.k i)=0)) (λ_ w hc h=>?_) ?_
    · refine ac (az h b (mB {X with k:=gy X.k i ((i:Int),(X.k i).2)} v.c r t s1 s2) rfl (iD (by show 68+i*8+1≤140;omega)) (Vj X v.c r t s1 s2 hi8 _) λw h=>?_)
      obtain⟨k1,hk1⟩:∃k1,k1=gy X.k i ((i:Int),(X.k i).2):=⟨_,rfl⟩;rw[←hk1]at h;have hk1i:k1 i=((i:Int),(X.k i).2):=by rw[hk1,e_]
      refine aH h λw h=>ac (ac ⟨by omega,aj h (Vi {X with k:=k1} v.c r t s1 s2 hi8 hg6) ⟨by omega,?_⟩⟩);refine az h b (mB {X with k:=gy X.k i (Nl (k1 i) g (inc (Vv (k1 i) g)))} v.c r t s1 s2) rfl (iD (by show 68+i*8+1+g*1+1≤140;omega)) (by rw[Vk {X with k:=k1} v.c r t s1 s2 hi8 hg6,hk1,G5]) λw h=>?_;rw[←Ob (k1 i) hg6,hk1i]at h;have hnk:∀x:Ct,x=((i:Int),(ik (X.k i) g).2.2)→gy X.k i x=mU X.k i g:=λx hx=>by
        unfold mU;rw[ay (by omega),ay (by omega),eR,ay (by omega),hx]
      have hn1:ik (X.k i) g=if g=0 then(0,tM (wait (X.k i) (inc (sW (X.k i)))) g)else(0,tM (wait (X.k i) (dec (sW (X.k i)))) g):=by
        unfold ik;rw[ay (by omega)];by_cases e:g=0
        · rw[aC (by omega),aC e]
        · rw[ay (by omega),ay (λx=>hc ⟨e,x⟩),ay e]
      have hw7:∀y:Int,wait (tM ((i:Int),(X.k i).2) g) y=((i:Int),(tM (wait (X.k i) y) g).2):=λy=>by
        rcases QL hg6 with rfl|rfl|rfl|rfl|rfl|rfl<;>rfl
      have hc7:sW (tM ((i:Int),(X.k i).2) g)=sW (X.k i):=by
        rcases QL hg6 with rfl|rfl|rfl|rfl|rfl|rfl<;>rfl
      obtain⟨k2,hk2⟩:∃k2,k2=gy X.k i (tM ((i:Int),(X.k i).2) g):=⟨_,rfl⟩;rw[←hk2]at h;have hk2i:k2 i=tM ((i:Int),(X.k i).2) g:=by rw[hk2,e_]
      have hl:=QC {X with k:=k2} v.c r t s1 s2 hi8;dsimp only at hl;rw[hk2i,hc7]at hl;refine ae (λc=>?_) λc=>?_
      · have c:g=0:=by
         have c:(g:Int)=0:=bV;omega
        refine ac (aj h hl (ac (az h b (mB {X with k:=gy X.k i (wait (k2 i) (inc (sW (X.k i))))} v.c r t s1 s2) rfl (iD (by show 68+i*8+7+1≤140;omega)) (by rw[QB {X with k:=k2} v.c r t s1 s2 hi8,hk2,G5]) λw h=>?_)));exact back _ h (hnk _ (by rw[hk2i,hw7,hn1,aC c]))
      · have c:¬g=0:=by
         have c:¬(g:Int)=0:=bV;omega
        refine ac (aj h hl (ac (az h b (mB {X with k:=gy X.k i (wait (k2 i) (dec (sW (X.k i))))} v.c r t s1 s2) rfl (iD (by show 68+i*8+7+1≤140;omega)) (by rw[QB {X with k:=k2} v.c r t s1 s2 hi8,hk2,G5]) λw h=>?_)));exact back _ h (hnk _ (by rw[hk2i,hw7,hn1,ay c]))
    · refine ae (λc=>?_) λc=>?_
      · have c:g≠0:=by
         have c:¬(g:Int)=0:=bV;omega
        refine ac (aj h (QC X v.c r t s1 s2 hi8) (ae (λc2=>?_) λc2=>?_))
        · have c2:sW (X.k i)=0:=gk
          exact back X.k h (by unfold mU;rw[ay (by omega),ay (by omega),eR,aC ⟨by omega,c2⟩])
        · have c2:¬sW (X.k i)=0:=gk
          exact⟨λx=>c2 x.2,h⟩
      · have c:g=0:=by
         have c:(g:Int)=0:=bV;omega
        exact⟨λx=>x.1 c,h⟩
theorem GC(b:Nat)(X:Cx)(v:Qm)(s:Int):bm (XI (some ⟨b,68⟩) s) (bP b X v) (λx=>bh (x.1=jb X.k s) (bP b X v)):=
 br λw0 S R h=>by
  refine aA (h.le (aF _)) λn1 w h=>ae (λc=>?_) λc=>?_
  ·have c:s<0∨s≥8:=bV;refine aw h (by rfl) λw h=>ar (b:=n1) (x:=Fz) h rfl ?_;exact au.aE (by unfold jb;rw[aC c]) h.aG
  ·have c:¬(s<0∨s≥8):=bV;obtain⟨r,t,hq,h⟩:=h.bP b X v;obtain⟨s1,s2,h⟩:=h.jq b X (dN X v.c r t) v.lv;refine ac ⟨by omega,aj h (Rv X v.c r t s1 s2 (i:=s.toNat) (by omega)) ?_⟩;have h:=h.dv b X (dN X v.c r t) s1 s2 v.lv;have h:=h.fe b X v r t hq;refine aA h λn5 w h=>aw h (by rfl) λw h=>az h n5 (Ks.mk [.int .i64,.int .i64,.int .i64,.int .i64,.int .i64,.int .i64,.int .i64,.int .i64] (s,(X.k s.toNat).2)) rfl rfl rfl λw h=>ar (b:=n5) (x:=(s,(X.k s.toNat).2)) h rfl (aw h (by rfl) λw h=>ar (b:=n1) (x:=(s,(X.k s.toNat).2)) h rfl ?_);exact au.aE (by unfold jb;rw[ay c]) h.aG
end Rc

end Go.X
