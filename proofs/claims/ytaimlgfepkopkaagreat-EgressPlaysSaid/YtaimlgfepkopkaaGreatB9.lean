/- Contracts and plain facts: EgF EgG EgH BoardLaws RefBoard BbrV BbrX. -/
import Derived.Test.YtaimlgfepkopkaaGreatB8
set_option linter.all false
namespace Go.X
open Go.Proofs
namespace Hd
open bB bi fg lK lV eS z9 Bw Ae qk E2 ES
open dZ (Sk bY b_ eh ie ii cK bp dI)
open nG (mc)
open lL (oH)
theorem Qe{α:Type}(l:Nat→α)(i:Nat)(x y:α):gy (gy l i x) i y=gy l i y:=funext λj=>by unfold gy;split<;>rfl
theorem LD{k j:Int}{v:Sk}(h:oH k v)(hj:k≤j)(hj2:j≤1000000):oH j v:=
 {i:=h.i.le hj,kr:=by have:=h.kr;omega,g:=h.g,b:=lL.Qn h.b (by omega)}
theorem Bx{k j:Int}{v:Mc}(h:iH k v)(hj:k≤j)(hj2:j≤1000000):iH j v:=
 {c:=h.c,ao:=h.ao,q:=h.q,so:=λi x hx=>⟨LD (h.so i x hx).1 hj hj2,(h.so i x hx).2⟩,kr:=by have:=h.kr;omega}
theorem qh{k:Int}{x:Sk}(hx:oH k x)(hk:k<1000000){ao:Int}(hn:U ao)(d:Dd)(xs:List (Int×Int)):oH (k+1) (dn x ao d xs).2∧(dn x ao d xs).2.id=x.id:=by
 unfold dn;split
 ·exact⟨hx.write hk _,rfl⟩
 ·split
  ·exact⟨hx.Dh hk hn _ _,by unfold ml.nH;split<;>rfl⟩
  ·split
   ·exact⟨hx.xr hk hn,rfl⟩
   ·exact⟨hx.done hk _,by unfold b_;split<;>rfl⟩
theorem CU{k:Int}{v:Mc}(hv:iH k v){i:Nat}(hi:i<8){x:Sk}(hx:oH k x)(hid:x.id=(i:Int)):iH k {v with so:=gy v.so i (some x)}:=by
 have hso:∀j y,gy v.so i (some x) j=some y→oH k y∧y.id=(j:Int)∧j<8:=λj y hy=>by
  by_cases e:j=i
  ·subst e;rw[e_]at hy;cases hy;exact⟨hx,hid,hi⟩
  ·rw[jM _ _ e]at hy;exact hv.so j y hy
 exact{hv with so:=hso}
theorem Uq{k:Int}{v:Mc}(hv:iH k v)(i:Nat):iH k {v with so:=gy v.so i none}:=by
 have hso:∀j y,gy v.so i none j=some y→oH k y∧y.id=(j:Int)∧j<8:=λj y hy=>by
  by_cases e:j=i
  ·subst e;rw[e_]at hy;cases hy
  ·rw[jM _ _ e]at hy;exact hv.so j y hy
 exact{hv with so:=hso}
theorem PM(b a:Nat)(k:Int)(v:Mc)(hv:iH k v)(hk:k<1000000)(d:Dd)(hd:JT d)(xs:List (Ks.T KR))(hxl:xs.length≤4294967296)(o:Ou)(hl:o.dr.length≤400∧o.ft.length≤400):
  bm (Xv (some ⟨b,0⟩) d (some ⟨a,0⟩)) ((dy b v^fu a o)^ba (dR d) KR xs) (λr=>bh (r=(iM v d xs o).1) (dy b (iM v d xs o).2.2^fu a (iM v d xs o).2.1)):=
 br λw0 S R h=>by
  refine aA (h.le (aF _)) λn1 w h=>aj (x:=dS d) h rfl (af (LB (dS d)) (h.le ((aF _).trans (aV _ _))) λr w h=>?_);obtain⟨hr,h⟩:=h.aB;rw[hr];have h:au w0 S R w (ah n1 (Ks.mk KD d)^dy b v^fu a o^ba (dR d) KR xs^aT):=h.aG;refine ae (λc=>?_) λc=>?_
  ·have c:¬(0≤dS d∧dS d<8):=λhh=>by rw[kV hh]at c;cases c
   rw[show iM v d xs o=(8,o,v) by unfold iM;rw[aC c]];exact au.aE rfl h.aG
  have c:0≤dS d∧dS d<8:=by
   by_cases hh:0≤dS d∧dS d<8
   ·exact hh
   ·rw[mZ hh]at c;cases c
  obtain⟨i,hi⟩:∃i:Nat,dS d=(i:Int):=⟨(dS d).toNat,by omega⟩;have hi8:i<8:=by omega
  have eit:((i:Nat):Int).toNat=i:=eR i;have hone:iM v d xs o=match v.so i with
    |none=>if dK d=1 then(0,o,{v with so:=gy v.so i (some (ii (i:Int) (eF v.c) (dM v.c)))})else(10,o,v)
    |some x=>if dK d=1 then(9,o,v)else if dK d=9 then(0,(nW v i o).1,(nW v i o).2)
     else if(dn x v.ao d xs).1=0 then(0,(lO v i (dn x v.ao d xs).2 o).1,(lO v i (dn x v.ao d xs).2 o).2)
     else((dn x v.ao d xs).1,o,{v with so:=gy v.so i (some (dn x v.ao d xs).2)}):=by
   unfold iM;first
    |(rw[ay (λhh=>hh c),hi,eit];cases v.so i<;>rfl)
    |rw[ay (λhh=>hh c),hi,eit]
  obtain⟨p,ck,q,l,h⟩:=h.dy b;have hsn:=X5 h p v.so hi8;have hat:Ks.un [.ptr] (((mL v.c ck p q l).drop (0+10+(dS d).toNat*1)).take 1)=some (p i):=by rw[hi,eit,LW v.c ck p q l i hi8]
  refine aH h λw h=>aj (x:=dS d) h rfl (ac ⟨c,aj h hat (aj (x:=dK d) h rfl ?_)⟩);cases hs:v.so i with
  |none=>
   rw[hs]at hsn hone;have hpn:p i=none:=by simpa using hsn
   rw[hpn];refine ae (λcc=>(by simp at cc)) λ_=>aj (x:=dK d) h rfl (ae (λc1=>?_) λc1=>?_)
   ·have c1:dK d=1:=(by simpa using c1);dsimp only at hone;rw[aC c1]at hone;rw[hone];refine aH h λw h=>aj (x:=dS d) h rfl (aj (x:=dS d) h rfl (ac (ac (aj (x:=v.c) h rfl ?_))));rw[hi];refine af (wS.Ns (i:Int) v.c) (h.le ((aF _).trans (aV _ _))) λr w h=>?_;obtain⟨ap,h⟩:=h.lX;obtain⟨hr,h⟩:=h.aB;rw[hr];have h:au w0 S R w (kg ap (ii (i:Int) (eF v.c) (dM v.c))^ah n1 (Ks.mk KD d)^(ah b (mL v.c ck p q l)^ah ck [.int .u64 v.ao]^nX q v.q^rz l v.l^ns p v.so)^fu a o^aT):=h.aG;refine aI h (by show [Lf.int IntKind.i64 (dS d)]=_;rw[hi];rfl) ⟨by omega,?_⟩;rw[eit];obtain⟨_,h⟩:=h.UO p v.so hi8 hs;refine az h b (mL v.c ck (vI p i (some ⟨ap,0⟩)) q l) rfl (by rcases QM hi8 with rfl|rfl|rfl|rfl|rfl|rfl|rfl|rfl<;>rfl) (QN v.c ck p q l i hi8 (some ⟨ap,0⟩)) λw h=>?_;have h:=h.QG p v.so hi8 (vI p i (some ⟨ap,0⟩)) (gy v.so i (some (ii (i:Int) (eF v.c) (dM v.c)))) ap (ii (i:Int) (eF v.c) (dM v.c)) (λj hj=>z4 p _ hj) (λj hj=>jM v.so _ hj) (rZ p i _) (e_ v.so i _);have h:=h.gg b (vI p i (some ⟨ap,0⟩)) ck q l {v with so:=gy v.so i (some (ii (i:Int) (eF v.c) (dM v.c)))};exact au.aE rfl h.aG
   ·have c1:¬dK d=1:=(by simpa using c1);dsimp only at hone;rw[ay c1]at hone;rw[hone];refine ae (λ_=>?_) λcc=>(by simp at cc);have h:=h.gg b p ck q l v;exact au.aE rfl h.aG
  |some x=>
   obtain⟨hx,hid,_⟩:=hv.so i x hs;rw[hs]at hsn hone;obtain⟨ap,hp,h⟩:=h.FY p v.so hi8 hs;rw[hp];refine ae (λc1=>?_) λc1=>?_
   ·have c1:dK d=1:=(by simpa using c1);dsimp only at hone;rw[aC c1]at hone;rw[hone];have h:=h.QG p v.so hi8 p v.so ap x (λ_ _=>rfl) (λ_ _=>rfl) hp hs;have h:=h.gg b p ck q l v;exact au.aE rfl h.aG
   have c1:¬dK d=1:=(by simpa using c1);dsimp only at hone;rw[ay c1]at hone;refine aj (x:=dK d) h rfl (ae (λcc=>(by simp at cc;exact absurd cc c1)) λ_=>ae (λcc=>(by simp at cc)) λ_=>aj (x:=dK d) h rfl (ae (λc9=>?_) λc9=>?_))
   ·have c9:dK d=9:=(by simpa using c9);rw[aC c9]at hone;rw[hone];have h:=h.QG p v.so hi8 p v.so ap x (λ_ _=>rfl) (λ_ _=>rfl) hp hs;have h:=h.gg b p ck q l v;refine aj (x:=dS d) h rfl ?_;rw[hi];refine af (Np b a k v hv i hi8 o hl) h λ_ w h=>?_;exact au.aE rfl h.aG
   have c9:¬dK d=9:=(by simpa using c9);rw[ay c9]at hone;refine aH h λw h=>ar (b:=n1) (x:=d) h rfl (af (pk b v.c p ck q l v.ao) h λr w h=>?_);obtain⟨hr,h⟩:=h.aB;rw[hr];refine aJ (b:=n1) h ?_;refine bI (A:=kg ap x) (Q:=ba (dR d) KR xs) (Nu ap k x hx v.ao hv.un d hd xs hxl) h λr w h=>?_;obtain⟨hr,h⟩:=h.aB;rw[hr];obtain⟨hx2,hid2⟩:=qh hx hk hv.un d xs;have h:=h.QG p v.so hi8 p (gy v.so i (some (dn x v.ao d xs).2)) ap (dn x v.ao d xs).2 (λ_ _=>rfl) (λj hj=>jM v.so _ hj) hp (e_ v.so i _);have h:=h.gg b p ck q l {v with so:=gy v.so i (some (dn x v.ao d xs).2)};have hv2:iH (k+1) {v with so:=gy v.so i (some (dn x v.ao d xs).2)}:=CU (Bx hv (by omega) (by omega)) hi8 hx2 (hid2.trans hid);refine ae (λc0=>?_) λc0=>?_
   ·have c0:(dn x v.ao d xs).1=0:=(by simpa using c0);rw[aC c0]at hone;rw[hone];refine aj (x:=dS d) h rfl ?_;rw[hi];refine af (Ms b a (k+1) {v with so:=gy v.so i (some (dn x v.ao d xs).2)} hv2 i (dn x v.ao d xs).2 (e_ v.so i _) o (by omega)) h λ_ w h=>?_;have e:lO {v with so:=gy v.so i (some (dn x v.ao d xs).2)} i (dn x v.ao d xs).2 o=lO v i (dn x v.ao d xs).2 o:=by
     unfold lO;dsimp only;rw[Qe]
    rw[e]at h;exact au.aE c0 h.aG
   ·have c0:¬(dn x v.ao d xs).1=0:=(by simpa using c0);rw[ay c0]at hone;rw[hone];exact au.aE rfl h.aG
abbrev oe:Ks:=[.sl,.sl,.sl,.int .u64]
def oc(r:Ks.T oe)(o:Ou):SP:=bh (r.2.2.2=o.wd) (aP r.1 KS o.oa^aP r.2.1 KS o.dr^aP r.2.2.1 KI o.ft)
instance(r:Ks.T oe)(o:Ou):qq (oc r o):=by unfold oc;infer_instance
theorem VP{k:Int}(h:uS k=true):k=1∨k=2∨k=3∨k=4∨k=7∨k=9:=by
 unfold uS at h;simp only[zy,p_]at h;omega
theorem La(b:Nat)(k:Int)(v:Mc)(hv:iH k v)(hk:k<1000000)(d:Dd)(hd:JT d)(xs:List (Ks.T KR))(hxl:xs.length≤4294967296):
  bm (Wr (some ⟨b,0⟩) d) (dy b v^ba (dR d) KR xs) (λr=>bh (r.2=(mH v d xs).1.2) (dy b (mH v d xs).2^oc r.1 (mH v d xs).1.1)):=
 br λw0 S R h=>by
  refine aA (h.le (aF _)) λn1 w h=>aA h λn2 w h=>ae (λc=>(by simp at c)) λ_=>aA h λn4 w h=>?_;have h:=h.nil KS;have h:=h.nil KS;have h:=h.nil KI;have h:=h.v9 n4 ⟨none,0,0⟩ ⟨none,0,0⟩ ⟨none,0,0⟩ eQ;have h:au w0 S R w (ah n1 (Ks.mk KD d)^fu n4 eQ^dy b v^ba (dR d) KR xs^ah n2 [.sl ⟨none,0,0⟩,.sl ⟨none,0,0⟩,.sl ⟨none,0,0⟩,.int .u64 0]^aT):=h.aG;refine aK h (λ_=>fu n4 (dT v d xs).2.1^dy b (dT v d xs).2.2^ah n2 [.sl ⟨none,0,0⟩,.sl ⟨none,0,0⟩,.sl ⟨none,0,0⟩,.int .u64 0]^aT) (λy:Int=>y=(dT v d xs).1) (λ(y:Int) w hy h=>?_) ?_
  ·rw[hy];refine ae (λc=>?_) λc=>?_
   ·have c:(dT v d xs).1≠0:=bV;rw[show mH v d xs=((eQ,(dT v d xs).1),(dT v d xs).2.2) by unfold mH;rw[aC c]];refine aw h (by rfl) λw h=>ar (b:=n2) (x:=((⟨none,0,0⟩,⟨none,0,0⟩,⟨none,0,0⟩,0):Ks.T oe)) h rfl ?_;have h:=h.nil KS;have h:=h.nil KS;have h:=h.nil KI;have h:au w0 S R w (oc (⟨none,0,0⟩,⟨none,0,0⟩,⟨none,0,0⟩,0) eQ^dy b (dT v d xs).2.2^aT):=au.iF (p:=((⟨none,0,0⟩,⟨none,0,0⟩,⟨none,0,0⟩,0):Ks.T oe).2.2.2=eQ.wd) (A:=aP ⟨none,0,0⟩ KS []^aP ⟨none,0,0⟩ KS []^aP ⟨none,0,0⟩ KI []) rfl h.aG;exact au.aE rfl h.aG
   ·have c:(dT v d xs).1=0:=bV;rw[show mH v d xs=(((dT v d xs).2.1,0),(dT v d xs).2.2) by unfold mH;rw[ay (λx=>x c)]];obtain⟨s1,s2,s3,h⟩:=h.fu n4;refine ar (b:=n4) (x:=((s1,s2,s3,(dT v d xs).2.1.wd):Ks.T oe)) h rfl (aw h (by rfl) λw h=>ar (b:=n2) (x:=((s1,s2,s3,(dT v d xs).2.1.wd):Ks.T oe)) h rfl ?_);have h:au w0 S R w (oc (s1,s2,s3,(dT v d xs).2.1.wd) (dT v d xs).2.1^dy b (dT v d xs).2.2^aT):=au.iF (p:=((s1,s2,s3,(dT v d xs).2.1.wd):Ks.T oe).2.2.2=(dT v d xs).2.1.wd) (A:=aP s1 KS (dT v d xs).2.1.oa^aP s2 KS (dT v d xs).2.1.dr^aP s3 KI (dT v d xs).2.1.ft) rfl h.aG;exact au.aE rfl h.aG
  ·refine aj (x:=dK d) h rfl (ae (λc5=>?_) λc5=>?_)
   ·have c5:dK d=5:=(by simpa using c5);rw[show dT v d xs=((ig v.ao (dA d)).1,eQ,{v with ao:=(ig v.ao (dA d)).2}) by unfold dT;rw[aC c5]];obtain⟨p,ck,q,l,h⟩:=h.dy b;refine aH h λw h=>ac (aj (x:=dA d) h rfl (aj (x:=some ⟨ck,0⟩) h rfl (af (L2 ck v.ao (dA d)) h λr w h=>?_)));obtain⟨hr,h⟩:=h.aB;rw[hr];have h:=h.gg b p ck q l {v with ao:=(ig v.ao (dA d)).2};exact⟨rfl,h.aG⟩
   have c5:¬dK d=5:=(by simpa using c5);refine ae (λc6=>?_) λc6=>?_
   ·have c6:dK d=6:=(by simpa using c6);rw[show dT v d xs=(0,(fy v eQ).1,(fy v eQ).2) by unfold dT;rw[ay c5,aC c6]];refine af (Mq b n4 k v hv eQ) h λ_ w h=>?_;exact⟨rfl,h.aG⟩
   have c6:¬dK d=6:=(by simpa using c6);refine ae (λc8=>?_) λc8=>?_
   ·have c8:dK d=8:=(by simpa using c8);rw[show dT v d xs=((qO v (dC d)).1,eQ,(qO v (dC d)).2) by unfold dT;rw[ay c5,ay c6,aC c8]];refine aj (x:=dC d) h rfl (af (mg b v (dC d)) h λr w h=>?_);obtain⟨hr,h⟩:=h.aB;rw[hr];exact⟨rfl,h.aG⟩
   have c8:¬dK d=8:=(by simpa using c8);have estep:dT v d xs=if uS (dK d)then iM v d xs eQ else(12,eQ,v):=by unfold dT;rw[ay c5,ay c6,ay c8]
   refine aK h (λ_=>ah n1 (Ks.mk KD d)^fu n4 eQ^dy b v^ba (dR d) KR xs^ah n2 [.sl ⟨none,0,0⟩,.sl ⟨none,0,0⟩,.sl ⟨none,0,0⟩,.int .u64 0]^aT) (λy:Bool=>y=uS (dK d)) (λ(y:Bool) w hy h=>?_) ?_
   ·rw[hy];refine ae (λc=>?_) λc=>?_
    ·rw[aC c]at estep;rw[estep];refine ar (b:=n1) (x:=d) h rfl ?_;refine bI (A:=dy b v^fu n4 eQ) (Q:=ba (dR d) KR xs) (PM b n4 k v hv hk d hd xs hxl eQ ⟨by show(0:Nat)≤400;decide,by show(0:Nat)≤400;decide⟩) h λr w h=>?_;obtain⟨hr,h⟩:=h.aB;rw[hr];exact⟨rfl,h.aG⟩
    ·rw[ay (by rw[c];simp)]at estep;rw[estep];exact⟨rfl,h.aG⟩
   ·unfold uS;refine ae (λc=>⟨by rw[c];rfl,h⟩) λd1=>?_;refine ae (λc=>⟨by rw[d1,c];rfl,h⟩) λd2=>?_;refine ae (λc=>⟨by rw[d1,d2,c];rfl,h⟩) λd3=>?_;refine ae (λc=>⟨by rw[d1,d2,d3,c];rfl,h⟩) λd4=>?_;refine ae (λc=>⟨by rw[d1,d2,d3,d4,c];rfl,h⟩) λd5=>?_;exact⟨by rw[d1,d2,d3,d4,d5];rfl,h⟩
end Hd

namespace NV
open bB bi lK z9
class NN(A:SP):Prop where
 Yb:∀w S R,A.h w S R→∀k,¬S k
instance(s:Sl)(K:Ks)(xs:List (Ks.T K)):NN (ba s K xs):=⟨λ_ _ _ h=>h.2.1⟩
instance:NN aT:=⟨λ_ _ _ h=>h.1⟩
instance(A B:SP)[a:NN A][b:NN B]:NN (A^B):=⟨λ_ _ _ ⟨_,_,_,_,h1,h2,hS,_⟩ k hk=>((hS k).1 hk).elim (a.Yb _ _ _ h1 k) (b.Yb _ _ _ h2 k)⟩
theorem L7{α:Type}(f:α→SP)(h:∀x,NN (f x)):∀l:List α,NN (rl f l)
 |[]=>by unfold rl;infer_instance
 |x::l=>by have:=L7 f h l;have:=h x;unfold rl;infer_instance
instance{α:Type}(f:α→SP)(l:List α)[h:∀x,NN (f x)]:NN (rl f l):=L7 f h l
instance (priority:=300) UN(A F G:SP)[t:Take A F G][n:NN A]:C_ A F:=⟨λw S R h=>by
 obtain⟨S1,R1,S2,R2,h1,h2,hS,hR,_⟩:=t.le w S R h;have e:S1=λ_=>False:=funext λk=>eq_false (n.Yb _ _ _ h1 k);rw[e]at h1;exact⟨R1,h1,λk hk=>.inr ((hR k).2 (.inl hk))⟩⟩
abbrev KR:Ks:=[.int .u64,.int .u64]
abbrev BA:=Dd×List (Ks.T KR)
abbrev u7(s:Sl)(ps:List BA):SP:=ba s KD (ps.map Prod.fst)^rl (λp:BA=>ba (dR p.1) KR p.2) ps
def rh(d:Dd):Dd:=(dK d,dS d,(if dL d>200000 then 200000 else dL d),dU d,dA d,(if(dR d).len>6 then(dR d).sub 0 6 (dR d).cap 2 else dR d),dC d)
def ga(most:Int)(ps:List BA):List BA:=(ps.take most.toNat).map λp=>(rh p.1,p.2.take 6)
structure Wk(p:BA):Prop where
 l:-9223372036854775808≤dL p.1∧dL p.1<9223372036854775808
 u:U (dU p.1)
 a:U (dA p.1)
 c:0≤cH (dC p.1)∧U (cR (dC p.1))
 n:p.2.length≤9223372036854775807
 cp:(dR p.1).len≤(dR p.1).cap
theorem T3{p:BA}(h:∀k n,Lf.int k n∈Ks.mk KD p.1→(Lit.int k n).wf=true)(hm:p.2.length≤maxLen)(hc:(dR p.1).len≤(dR p.1).cap):Wk p where
 l:=Wf.i (h .i64 (dL p.1) (kQ (i:=2) rfl))
 u:=Wf.u (h .u64 (dU p.1) (kQ (i:=3) rfl))
 a:=Wf.u (h .u64 (dA p.1) (kQ (i:=4) rfl))
 c:=⟨(Wf.u (h .u64 (cH (dC p.1)) (kQ (i:=10) rfl))).1,Wf.u (h .u64 (cR (dC p.1)) (kQ (i:=11) rfl))⟩
 n:=hm
 cp:=hc
theorem QS{ps:List BA}{i:Nat}{o:BA}(h:ps[i]?=some o):Rd (dR o.1) (rl (λp:BA=>ba (dR p.1) KR p.2) ps) KR o.2:=QT h (PX _ _ _)
theorem PV(p:BA)(F:SP)(hc:(dR p.1).len≤(dR p.1).cap)(hl:(dR p.1).len=p.2.length)[t:Rd (dR p.1) F KR p.2]:Rd (dR (rh p.1)) F KR (p.2.take 6):=by
 show Rd (if(dR p.1).len>6 then(dR p.1).sub 0 6 (dR p.1).cap 2 else dR p.1) F KR (p.2.take 6);by_cases h:(dR p.1).len>6
 ·rw[aC h];exact MU (dR p.1) F KR p.2 0 6 (dR p.1).cap (by omega) (by omega) (by omega)
 ·rw[ay h,kp (by omega)];exact t
abbrev zD:List Lf:=[.int .i64 0,.int .i64 0,.int .i64 0,.int .u64 0,.int .u64 0,.sl ⟨none,0,0⟩,.int .i64 0,.int .i64 0,.int .i64 0,.int .i64 0,.int .u64 0,.int .u64 0,.bool false,.int .i64 0,.int .i64 0]
theorem K7(d:Dd)(xs:List (Ks.T KR))(hc:(dR d).len≤(dR d).cap):bm (Xz d) (aT^ba (dR d) KR xs) (λr=>bh (r=rh d) aT):=
 br λw0 S R h=>by
  have hs:=(h.drop.rd (s:=dR d)).2;obtain⟨R',hR'⟩:∃R',R'=(if(dR d).len>6 then(dR d).sub 0 6 (dR d).cap 2 else dR d):=⟨_,rfl⟩;obtain⟨L',hL'⟩:∃L',L'=(if dL d>200000 then 200000 else dL d):=⟨_,rfl⟩;have e:rh d=(dK d,dS d,L',dU d,dA d,R',dC d):=by rw[hL',hR'];rfl
  refine aA h λn1 w h=>aA h λn2 w h=>?_;have h:au w0 S R w (ah n1 (Ks.mk KD d)^ah n2 zD^ba (dR d) KR xs^aT):=h.aG;refine aK h (λ_=>ah n1 (Ks.mk KD (dK d,dS d,dL d,dU d,dA d,R',dC d))^ah n2 zD^aT) (λ_=>True) (λ_ w _ h=>?_) ?_
  ·refine aK h (λ_=>ah n1 (Ks.mk KD (dK d,dS d,L',dU d,dA d,R',dC d))^ah n2 zD^aT) (λ_=>True) (λ_ w _ h=>?_) ?_
   ·refine ar (b:=n1) (x:=((dK d,dS d,L',dU d,dA d,R',dC d):Dd)) h rfl (aw h (by rfl) λw h=>ar (b:=n2) (x:=((dK d,dS d,L',dU d,dA d,R',dC d):Dd)) h rfl ?_);exact au.aE e.symm h.fV
   ·refine aj (x:=dL d) h rfl (ae (λc=>?_) λc=>?_)
    ·have c:dL d>200000:=bJ c;rw[aC c]at hL';refine az h n1 (Ks.mk KD (dK d,dS d,L',dU d,dA d,R',dC d)) rfl rfl (by rw[hL'];rfl) λw h=>?_;exact⟨trivial,h.aG⟩
    ·have c:¬dL d>200000:=bQ c;rw[ay c]at hL';rw[hL'];exact⟨trivial,h⟩
  ·refine aj (x:=dR d) h rfl (ae (λc=>?_) λc=>?_)
   ·have c:(((dR d).len:Nat):Int)>6:=bJ c;have c2:(dR d).len>6:=(by omega);rw[aC c2]at hR';have hN:Db (dR d):=Db.qI (h.rd (s:=dR d)).1 (by omega);refine aj (x:=dR d) h rfl (NE (K:=KR) (xs:=xs) (s:=dR d) h hN 0 6 (dR d).cap rfl rfl rfl rfl (by omega) (by omega) (by omega) (fa _) λ_ _=>?_);rw[←hR'];refine az h n1 (Ks.mk KD (dK d,dS d,dL d,dU d,dA d,R',dC d)) rfl rfl rfl λw h=>?_;exact⟨trivial,h.aG⟩
   ·have c:¬(((dR d).len:Nat):Int)>6:=bQ c;have c2:¬(dR d).len>6:=(by omega);rw[ay c2]at hR';rw[hR'];exact⟨trivial,h.aG⟩
theorem IU{ps:List BA}{most:Int}{i:Nat}{p:BA}(h:ps[i]?=some p)(hi:i<most.toNat):(ga most ps)[i]?=some (rh p.1,p.2.take 6):=by
 unfold ga;rw[oD,oC,aC hi,h];rfl
theorem IV(s:Sl)(ps:List BA)(most:Int)(hm:0≤most∧most≤1000)(hp:∀p∈ps,Wk p):bm (Xg s most) (aT^u7 s ps) (λr=>aP r KD ((ga most ps).map Prod.fst)):=
 br λw0 S R h=>by
  have h:au w0 S R w0 (ba s KD (ps.map Prod.fst)^rl (λp:BA=>ba (dR p.1) KR p.2) ps^aT):=h.aG;have hsl:=(h.rd (s:=s)).2;rw[kT]at hsl;have h:=h.nil KD;have h:au w0 S R w0 (aP ⟨none,0,0⟩ KD ((ga 0 ps).map Prod.fst)^ba s KD (ps.map Prod.fst)^rl (λp:BA=>ba (dR p.1) KR p.2) ps^aT):=h;refine gn (λ(y:Sl×Int) (_:Unit)=>aP y.1 KD ((ga y.2 ps).map Prod.fst)^ba s KD (ps.map Prod.fst)^rl (λp:BA=>ba (dR p.1) KR p.2) ps^aT) (λ(y:Sl×Int) _=>0≤y.2∧y.2≤most) (λ(y:Sl×Int) _=>(most-y.2).toNat) () h ⟨by decide,hm.1⟩ ?_;rintro K (y:Sl×Int) _ w ⟨h0,h1⟩ h next
  obtain⟨r,i⟩:=y;dsimp only at h0 h1 h⊢;refine ae (λc=>?_) λc=>?_
  ·have c:i<ps.length∧i<most:=by
    have c:(decide (i<((s.len:Nat):Int))&&decide (i<most))=true:=c;rw[fG,gK,gK]at c;omega
   have hi:i.toNat<ps.length:=(by omega);have hwi:IntKind.i64.wrap (i+1)=i+1:=wi (by omega) (by omega);have hin:(i+1).toNat=i.toNat+1:=(by omega);obtain⟨p,hpi⟩:∃p,ps[i.toNat]?=some p:=⟨_,jG hi⟩;have hpm:(ps.map Prod.fst)[i.toNat]?=some p.1:=by rw[oD,hpi];rfl
   haveI:=QS hpi
   have hO:=hp p (kQ hpi);refine bR (s:=s) h h0 (by rw[kT];exact hi) (dW h s i.toNat hpm rfl ?_);refine bI (A:=aT) (Q:=ba (dR p.1) KR p.2) (K7 p.1 p.2 hO.cp) (h.le ((aF _).trans (aV _ _))) λq w h=>?_;obtain⟨hq,h⟩:=h.aB;rw[hq];refine aA h λn6 w h=>?_;have h:=h.cT n6 KD [rh p.1] rfl (by simp);have h:au w0 S R w (aP ⟨some ⟨n6,0⟩,1,1⟩ KD [rh p.1]^_):=h;have hlen:((ga i ps).map Prod.fst).length≤i.toNat:=(by rw[kT,ga,kT,fM];omega);refine dE (K:=KD) (s:=r) (xs:=(ga i ps).map Prod.fst) h rfl (by simp only[qy];omega) λs' w _ h=>?_;have e:(ga i ps).map Prod.fst++[rh p.1]=(ga (i+1) ps).map Prod.fst:=by
    unfold ga;rw[hin,lF,hpi,rO,rO];rfl
   rw[e]at h;rw[hwi];exact next (s',i+1) () w ⟨by show 0≤i+1;omega,by show i+1≤most;omega⟩ h.aG (by show(most-(i+1)).toNat<(most-i).toNat;omega)
  ·have e:ga i ps=ga most ps:=by
    unfold ga;have c:¬(i<ps.length∧i<most):=λhh=>by
     have c:(decide (i<((s.len:Nat):Int))&&decide (i<most))=false:=c;rw[kV (by omega),kV hh.2]at c;cases c
    by_cases h2:i<most
    ·rw[kp (by omega:ps.length≤i.toNat),kp (by omega:ps.length≤most.toNat)]
    ·rw[show i=most by omega]
   rw[e]at h;exact h.aG
end NV

namespace Qp
open bB bi fg lK lV eS z9 Bw Ae qk E2 ES Hd
open dZ (Sk bY b_ eh ie ii cK bp dI)
open nG (mc)
open lL (oH)
theorem PR{k:Int}{v:Mc}(hv:iH k v){i:Nat}(hi:i<8){x:Sk}(hx:oH k x)(hid:x.id=(i:Int))(o:Ou):iH k (lO v i x o).2:=by
 have h:=Ef hv.un (fresh x+1) ⟨x,v.q,v.l,o⟩ (⟨hx,hid,hv.q⟩:Ag k i ⟨x,v.q,v.l,o⟩);have h2:=CU hv hi (x:=(oA i v.ao ⟨x,v.q,v.l,o⟩).v) h.v h.id;exact{h2 with q:=h.q}
theorem P_{k:Int}{v:Mc}(hv:iH k v)(i:Nat)(o:Ou):iH k (nW v i o).2:=by
 have h:=Uq hv i;exact{h with q:=hv.q.close _}
theorem PQ{k:Int}{v:Mc}(hv:iH k v)(o:Ou):iH k (fy v o).2:=by
 have h:=JS.K9 hv.q hv.un (CE hv);unfold fy;split
 ·rename_i s q e;rw[e]at h;exact{hv with q:=h}
 ·rename_i q e;rw[e]at h;exact{hv with q:=h}
theorem Ud{k:Int}{v:Mc}(hv:iH k v){c:Cf}(hc:0≤cH c∧U (cR c)):iH k (qO v c).2:=by
 have h:=hv.q.set hc;unfold qO;split
 ·rename_i h0;refine{hv with q:=h,c:=?_};unfold qg at h0;by_cases hm:may c=true
  ·exact yJ hm hc.1 hc.2
  ·rw[ay hm]at h0;cases h0
 ·exact{hv with q:=h}
theorem T5{k:Int}{v:Mc}(hv:iH k v)(hk:k<1000000)(d:Dd)(xs:List (Int×Int))(o:Ou):iH (k+1) (iM v d xs o).2.2:=by
 have h1:=Bx hv (j:=k+1) (by omega) (by omega);have hc:=hv.c.cap;unfold iM;split
 ·exact h1
 ·rename_i hi;have hi:0≤dS d∧dS d<8:=Cn.1 hi;have hi8:(dS d).toNat<8:=by omega
  split
  ·split
   ·have hn:=lL.PE (dS d) (eF v.c) (dM v.c) ⟨by omega,by omega⟩;exact CU h1 hi8 (LD hn h1.kr.1 (by omega)) (by show dS d=_;omega)
   ·exact h1
  ·rename_i x hx;obtain⟨hxi,hxd,_⟩:=hv.so _ x hx;split
   ·exact h1
   ·split
    ·exact P_ h1 _ _
    ·obtain⟨a,b⟩:=qh hxi hk hv.un d xs;split
     ·exact PR h1 hi8 a (b.trans hxd) o
     ·exact CU h1 hi8 a (b.trans hxd)
theorem K_{k:Int}{v:Mc}(hv:iH k v)(hk:k<1000000){d:Dd}(hd:JT d)(xs:List (Int×Int)):iH (k+1) (mH v d xs).2:=by
 have h1:=Bx hv (j:=k+1) (by omega) (by omega);have e:(mH v d xs).2=(dT v d xs).2.2:=by unfold mH;split<;>rfl
 rw[e];unfold dT;split
 ·have hn:=hv.ao;have ha:=hd.a;unfold U at ha;refine{h1 with ao:=?_};show 0≤(ig v.ao (dA d)).2∧(ig v.ao (dA d)).2≤4611686018427387904;unfold ig;split
  ·exact hn
  ·split
   ·exact hn
   ·exact⟨ha.1,by show dA d≤_;omega⟩
 ·split
  ·exact PQ h1 _
  ·split
   ·exact Ud h1 hd.c
   ·split
    ·exact T5 hv hk d xs eQ
    ·exact h1
theorem L5{c:Cf}(hc:Af c):iH 0 (sY c) where
 c:=hc
 ao:=by show(0:Int)≤0∧(0:Int)≤4611686018427387904;decide
 q:=iQ.new hc
 so:=λi x h=>by cases h
 kr:=by decide
theorem _root_.Go.X.au.oc{w0 w:World}{S0 R0:Nat→Prop}{F G:SP}(h:au w0 S0 R0 w F)(r:Ks.T oe){o:Ou}[tk:mR Hd.oc r F o G]:r.2.2.2=o.wd∧au w0 S0 R0 w (aP r.1 KS o.oa^aP r.2.1 KS o.dr^aP r.2.2.1 KI o.ft^G):=by
 have h:au w0 S0 R0 w (bh (r.2.2.2=o.wd) (aP r.1 KS o.oa^aP r.2.1 KS o.dr^aP r.2.2.1 KI o.ft)^G):=h.le tk.le;obtain⟨hr,h⟩:=h.aB;exact⟨hr,h.aG⟩
theorem L6(A:SP)(K:Ks):Le A (A^ba ⟨none,0,0⟩ K []):=
 (aF A).trans (aZ Le.rfl λw S R h=>⟨⟨⟨by simp[flat],λ_=>rfl,λq hq=>by cases hq⟩,rfl⟩,h.1,λk=>⟨λhk=>absurd hk (h.2 k),λhk=>absurd rfl hk.2⟩⟩)
theorem BQ(b:Nat)(k:Int)(v:Mc)(hv:iH k v)(hk:k<1000000)(d:Dd)(hd:JT d)(hR:dR d=⟨none,0,0⟩):
  bm (Wr (some ⟨b,0⟩) d) (dy b v) (λr=>bh (r.2=(mH v d []).1.2) (dy b (mH v d []).2^oc r.1 (mH v d []).1.1)):=
 (La b k v hv hk d hd [] (by simp)).le (by rw[hR];exact L6 _ _) (λ_=>Le.rfl)
abbrev lE:Cf:=(3000,15000,100,50,10000000000,0,false,100000,1000)
theorem yZ:Af lE:=ET.yZ
abbrev K4(s:Int):Dd:=(1,s,0,0,0,⟨none,0,0⟩,0,0,0,0,0,0,false,0,0)
abbrev Hq(s n:Int):Dd:=(2,s,n,0,0,⟨none,0,0⟩,0,0,0,0,0,0,false,0,0)
abbrev Hp:Dd:=(6,0,0,0,0,⟨none,0,0⟩,0,0,0,0,0,0,false,0,0)
theorem DB(s:Int):JT (K4 s):=⟨(by decide:(0:Int)<9223372036854775808),aX 0,aX 0,(by decide:(0:Int)≤0),aX 0⟩
theorem DC(s n:Int)(h:n<9223372036854775808):JT (Hq s n):=⟨h,aX 0,aX 0,(by decide:(0:Int)≤0),aX 0⟩
theorem K5:JT Hp:=⟨(by decide:(0:Int)<9223372036854775808),aX 0,aX 0,(by decide:(0:Int)≤0),aX 0⟩
abbrev Vf:Mc:=(mH (sY lE) (K4 0) []).2
abbrev Wo:Mc:=(mH Vf (Hq 0 1000) []).2
theorem Kb:(mH Vf (Hq 0 1000) []).1.2=0∧(mH Wo Hp []).1.2=0∧(mH Wo Hp []).1.1.oa=[(0,0,1000,0,false)]:=by decide+kernel
theorem Iz:bm Xi aT (λr=>bh (r=true) aT):=
 br λw0 S R h=>by
  obtain⟨h1,h2,h3⟩:=Kb;have o0:=L5 yZ;have o1:=K_ o0 (by decide) (DB 0) [];have o2:=K_ o1 (by decide) (DC 0 1000 (by decide)) [];refine af ET.Ba (h.le (aF _)) λr w h=>?_;obtain⟨hr,h⟩:=h.aB;rw[hr];refine af (ES.jj lE) h λr w h=>?_;obtain⟨b,h⟩:=h.lX;obtain⟨hr,h⟩:=h.aB;rw[aC ET.A_]at hr h;rw[hr];have h:au w0 S R w (dy b (sY lE)^aT):=h.aG;refine aK h (λ_=>dy b (sY lE)^aT) (λ_=>True) (λ_ w _ h=>?_) ?_
  ·refine af (BQ b 0 (sY lE) o0 (by decide) (K4 0) (DB 0) rfl) h λr w h=>?_;obtain⟨_,h⟩:=h.aB;have h:au w0 S R w (dy b Vf^aT):=h.aG;refine af (BQ b (0+1) Vf o1 (by decide) (Hq 0 1000) (DC 0 1000 (by decide)) rfl) h λr w h=>?_;obtain⟨hr,h⟩:=h.aB;rw[hr,h1];have h:au w0 S R w (dy b Wo^aT):=h.aG;refine aA h λn8 w h=>aw h (by rfl) λw h=>?_;refine af (BQ b (0+1+1) Wo o2 (by decide) Hp K5 rfl) h λr w h=>?_;obtain⟨⟨s1,s2,s3,wd⟩,e⟩:=r;obtain⟨hr,h⟩:=h.aB;dsimp only at hr h⊢;rw[hr,h2];obtain⟨_,h⟩:=h.oc (s1,s2,s3,wd);dsimp only at h;rw[h3]at h;have hl:=(h.rd (s:=s1)).2;refine aA h λn10 w h=>aw h (by rfl) λw h=>ae (λ_=>?_) λc=>(by cases c);refine aj (x:=s1) h rfl (ae (λ_=>?_) λc=>(by rw[hl]at c;cases c));refine aj (x:=s1) h rfl (bR (s:=s1) h (by decide) (by show 0<1;decide) (eU h s1 0 2 ((0,0,1000,0,false):Sg) rfl rfl (by decide) (x:=(1000:Int)) rfl ?_));exact au.aE rfl h.fV
  ·refine ae (λc=>(by cases c)) λ_=>?_;refine af (zz b (sY lE)) h λr w h=>?_;obtain⟨hr,h⟩:=h.aB;rw[hr];refine ae (λc=>(by cases c)) λ_=>⟨trivial,h⟩
theorem Mk(a b:Ks.T oe)(x y:Ou)(hx:x.oa.length≤4294967296∧x.dr.length≤4294967296∧x.ft.length≤4294967296)(ha:a.2.2.2=x.wd)(hb:b.2.2.2=y.wd):bm (Xl a b)
  (aT^((ba a.1 KS x.oa^ba a.2.1 KS x.dr^ba a.2.2.1 KI x.ft)^ba b.1 KS y.oa^ba b.2.1 KS y.dr^ba b.2.2.1 KI y.ft)) (λr=>bh (r=true↔x=y) aT):=
 br λw0 S R h=>by
  have hxy:x=y↔x.oa=y.oa∧x.dr=y.dr∧x.ft=y.ft∧x.wd=y.wd:=by
   cases x;cases y;simp
  refine aA h λn1 w h=>aA h λn2 w h=>aj (x:=a.1) h rfl (aj (x:=b.1) h rfl ?_);have h:au w0 S R w (aT^ba a.1 KS x.oa^ba b.1 KS y.oa^ba a.2.1 KS x.dr^ba b.2.1 KS y.dr^ba a.2.2.1 KI x.ft^ba b.2.2.1 KI y.ft^ah n1 (Ks.mk oe a)^ah n2 (Ks.mk oe b)^aT):=h.aG;refine bI (A:=aT) (Q:=ba a.1 KS x.oa^ba b.1 KS y.oa) (J1.oQ a.1 b.1 x.oa y.oa hx.1) h λr w h=>?_;obtain⟨h1,h⟩:=h.aB;refine ae (λc=>?_) λc=>?_
  ·refine aj (x:=a.2.1) h rfl (aj (x:=b.2.1) h rfl ?_);refine bI (A:=aT) (Q:=ba a.2.1 KS x.dr^ba b.2.1 KS y.dr) (J1.oQ a.2.1 b.2.1 x.dr y.dr hx.2.1) h λr w h=>?_;obtain⟨h2,h⟩:=h.aB;refine ae (λc2=>?_) λc2=>?_
   ·refine aj (x:=a.2.2.1) h rfl (aj (x:=b.2.2.1) h rfl ?_);refine bI (A:=aT) (Q:=ba a.2.2.1 KI x.ft^ba b.2.2.1 KI y.ft) (Ik.Aq a.2.2.1 b.2.2.1 x.ft y.ft hx.2.2) h λr w h=>?_;obtain⟨h3,h⟩:=h.aB;refine ae (λc3=>?_) λc3=>?_
    ·refine aj (x:=a.2.2.2) h rfl (aj (x:=b.2.2.2) h rfl ?_);refine au.aE ?_ h.fV;rw[hxy,ha,hb,p_];exact⟨λe=>⟨h1.1 c,h2.1 c2,h3.1 c3,e⟩,λe=>e.2.2.2⟩
    ·exact au.aE ⟨λe=>(by cases e),λe=>(by rw[h3.2 (hxy.1 e).2.2.1]at c3;cases c3)⟩ h.fV
   ·exact au.aE ⟨λe=>(by cases e),λe=>(by rw[h2.2 (hxy.1 e).2.1]at c2;cases c2)⟩ h.fV
  ·exact au.aE ⟨λe=>(by cases e),λe=>(by rw[h1.2 (hxy.1 e).1]at c;cases c)⟩ h.fV
end Qp

namespace r_
open eA
def Qo:Int→List Pc→Int→Prop
 |a,[],e=>a≤e
 |a,p::l,e=>a≤iA p∧iA p<w8 p∧(xI p=true→jr p=false)∧Qo (w8 p) l e
structure Im(n:Nat)(v:List Pc×Int):Prop where
 chain:Qo 0 v.1 v.2
 FE:v.1.length≤n
 low:v.2≤5000*(n:Int)
theorem UA(n:Int):IntKind.u64.wrap n=n%18446744073709551616:=by
 simp[IntKind.wrap,IntKind.bits,IntKind.signed]
theorem Hf(n a b:Int):IntKind.u64.wrap (IntKind.u64.wrap (n+a)-b)=IntKind.u64.wrap (n+IntKind.u64.wrap (a-b)):=by
 simp only[UA];omega
end r_

namespace xU
open eA r_
theorem Px(p:Pc):(if jr p then gV p true else gV p (!xI p))=eX p:=by
 obtain⟨a1,a2,a3,a4,a5,a6,a7,a8,a9⟩:=p;cases a8<;>cases a9<;>rfl
theorem CD(p:Pc)(a:Sl)(xs:List (Ks.T KR))(hx:xs.length≤4294967296):bm (Su p a) (aT^ba a KR xs) (λr=>bh (r=xs.any (sX p)) aT):=
 br λw0 S R h=>by
  have ha:=(h.drop.rd (s:=a)).2;refine aA h λn w h=>?_;have h:au w0 S R w (ba a KR xs^ah n (Ks.mk aD p)):=h.aG;refine cS (λ(_:Int)=>ba a KR xs^ah n (Ks.mk aD p)) (λ(i:Int)=>(0≤i∧i≤xs.length)∧xs.any (sX p)=(xs.drop i.toNat).any (sX p)) (λ(i:Int)=>xs.length-i.toNat) h ⟨⟨by simp,by simp⟩,rfl⟩ ?_;rintro(i:Int) w ⟨⟨h0,h1⟩,h2⟩ h;refine ae (λc=>?_) λc=>?_
  ·have hi:i.toNat<xs.length:=(by simp at c;omega);obtain⟨x,hx⟩:∃x,xs[i.toNat]?=some x:=⟨_,bT hi⟩;have e:(i+1).toNat=i.toNat+1:=(by omega);rw[pP hx,List.any_cons]at h2;have hgo:sX p x=false→(((0≤IntKind.i64.wrap (i+1)∧IntKind.i64.wrap (i+1)≤xs.length)∧xs.any (sX p)=(xs.drop (IntKind.i64.wrap (i+1)).toNat).any (sX p))∧au w0 S R w (ba a KR xs^ah n (Ks.mk aD p)))∧xs.length-(IntKind.i64.wrap (i+1)).toNat<xs.length-i.toNat:=λhf=>by
    rw[wi (n:=i+1) (by omega) (by omega),e];rw[hf,zj]at h2;exact⟨⟨⟨⟨by omega,by omega⟩,h2⟩,h⟩,by omega⟩
   clear hgo;refine aH h λw h=>?_;refine bR h h0 hi ?_;refine aj h rfl ?_;refine eU h a i.toNat 0 x hx rfl (by decide) rfl ?_;have hgo:sX p x=false→(((0≤IntKind.i64.wrap (i+1)∧IntKind.i64.wrap (i+1)≤xs.length)∧xs.any (sX p)=(xs.drop (IntKind.i64.wrap (i+1)).toNat).any (sX p))∧au w0 S R w (ba a KR xs^ah n (Ks.mk aD p)))∧xs.length-(IntKind.i64.wrap (i+1)).toNat<xs.length-i.toNat:=λhf=>by
    rw[wi (n:=i+1) (by omega) (by omega),e];rw[hf,zj]at h2;exact⟨⟨⟨⟨by omega,by omega⟩,h2⟩,h⟩,by omega⟩
   refine ae (λc=>?_) λc=>?_
   ·refine bR h h0 hi ?_;refine aj h rfl ?_;refine eU h a i.toNat 1 x hx rfl (by decide) rfl ?_;refine ae (λc2=>?_) λc2=>?_
    ·refine au.aE ?_ h.fV;have:sX p x=true:=by
      have c:decide (x.1≤p.1)=true:=c;have c2:decide (x.2≥p.2.1)=true:=c2;rw[sX,c,c2];rfl
     rw[h2,this];rfl
    ·exact hgo (by
      have c:decide (x.1≤p.1)=true:=c;have c2:decide (x.2≥p.2.1)=false:=c2;rw[sX,c,c2];rfl)
   ·exact hgo (by
     have c:decide (x.1≤p.1)=false:=c;rw[sX,c];rfl)
  ·have hi:i.toNat=xs.length:=(by simp at c;omega);rw[hi,zw]at h2;exact au.aE (by rw[h2];rfl) h.fV
theorem Kd{e:Int}{xs:List (Int×Int)}{i:Nat}{x:Int×Int}(h:xs[i]?=some x):(xs.take (i+1)).any (dm e)=((xs.take i).any (dm e)||dm e x):=by
 rw[lF,h,List.any_append];simp
def oo(b:Nat)(v:List Pc×Int)(upto:Int)(xs:List (Int×Int))(r:Sl×Int×Int):SP:=
 cond (tZ v upto xs) (bh (r.2.1=(cm (eD upto xs v.1)).2.1∧r.2.2=0) (aP r.1 aD (fD upto xs v.1)^km b ((cm (eD upto xs v.1)).1,v.2)))
  (bh (r.1=⟨none,0,0⟩∧r.2.1=0∧r.2.2=11) (aP r.1 aD []^km b v))
end xU

namespace NT
open bB bi _root_.Go.X.Target fZ Ii
theorem NC(w:Int):bm (Ss w false) aT (λr=>ex λn:Nat=>bh (r=some ⟨n,0⟩) (ah n (ad.dH ((Wn.mk w 0 0 0 0 0 0 0))))):=
 br λw0 S R h=>by
  refine aA h λn w h=>?_;refine ae (λc=>(by cases c)) λ_=>?_;exact au.gX n (au.aE rfl h.aG)
def vAt(v:Wn)(i:Int):Int:=if i=0 then v.v0 else if i=1 then v.v1 else v.v2
theorem vN(b:Nat)(v:Wn)(x i:Int)(hi:i=0∨i=1∨i=2):bm (KK (some ⟨b,0⟩) x i) (ah b (ad.dH v)) (λr=>bh (r=decide (x≥vAt v i)) (ah b (ad.dH v))):=
 br λw0 S R h=>by
  refine ac (aj h rfl ?_);refine ae (λc=>(by cases c)) λ_=>ac ⟨by omega,?_⟩;rcases hi with rfl|rfl|rfl
  ·exact aj h rfl (au.aE rfl h.aG)
  ·exact aj h rfl (au.aE rfl h.aG)
  ·exact aj h rfl (au.aE rfl h.aG)
def NB(v:Wn)(i t x:Int):Wn:=if i=1 then{v with t1:=t,v1:=x}else{v with t2:=t,v2:=x}
theorem mg(b:Nat)(v:Wn)(i t x:Int)(hi:i=1∨i=2):bm (Dw (some ⟨b,0⟩) i t x) (ah b (ad.dH v)) (λ_=>ah b (ad.dH ((NB v i t x)))):=
 br λw0 S R h=>by
  refine aH h λw h=>ac (ac ⟨by omega,?_⟩);rcases hi with rfl|rfl
  ·refine az h b (ad.dH ({v with t1:=t})) rfl rfl rfl λw h=>⟨by omega,?_⟩;refine az h b (ad.dH ({v with t1:=t,v1:=x})) rfl rfl rfl λw h=>?_;exact au.bk (A:=ah b (ad.dH ((NB v 1 t x)))) h
  ·refine az h b (ad.dH ({v with t2:=t})) rfl rfl rfl λw h=>⟨by omega,?_⟩;refine az h b (ad.dH ({v with t2:=t,v2:=x})) rfl rfl rfl λw h=>?_;exact au.bk (A:=ah b (ad.dH ((NB v 2 t x)))) h
theorem Br(b:Nat)(v:Wn)(t x:Int):bm (OQ (some ⟨b,0⟩) t x) (ah b (ad.dH v)) (λ_=>ah b (ad.dH ((v.push t x)))):=
 br λw0 S R h=>by
  refine aH h λw h=>ac (ac (ac (ac ⟨by decide,by decide,by decide,by decide,aj h rfl (aj h rfl (aj h rfl (aj h rfl (ac ?_))))⟩)));refine az h b (ad.dH ({v with t0:=v.t1,t1:=v.t2,t2:=t})) rfl rfl rfl λw h=>ac ?_;refine az h b (ad.dH ((v.push t x))) rfl rfl rfl λw h=>?_;exact h.bk
theorem G8(b:Nat)(v:Wn)(t x:Int):bm (S5 (some ⟨b,0⟩) t x) (ah b (ad.dH v)) (λ_=>ah b (ad.dH (((v.tick t).all t x)))):=
 br λw0 S R h=>by
  refine ac (az h b (ad.dH ({v with t0:=t,t1:=t,t2:=t})) rfl rfl rfl λw h=>?_);refine ac (az h b (ad.dH ((v.all t x))) rfl rfl rfl λw h=>?_);refine ac (aj h rfl (ac ?_));refine az h b (ad.dH (((v.tick t).all t x))) rfl rfl rfl λw h=>?_;exact h.bk
theorem zT(b:Nat)(v:Wn)(hv:uk v)(t x:Int)(ht:U t)(hx:U x):bm (Sx (some ⟨b,0⟩) t x) (ah b (ad.dH v))
  (λr=>bh (r=(z6 v t x).v0) (ah b (ad.dH ((z6 v t x))))):=
 br λw0 S R h=>by
  refine ac (aj h rfl ?_);have hT:(if v.la>t then v.la else t)=(v.tick t).la:=by
   show _=if t>v.la then t else v.la
   (repeat' split)<;>omega
  simp only[hT];refine ac (az h b (ad.dH ((v.tick t))) rfl rfl rfl λw h=>?_);have hu:=hv.tick ht;have e0:z6 v t x=wU (v.tick t) (v.tick t).la x:=rfl;rw[e0];generalize v.tick t=u at*
  have hla:=hu.la;have ht2:=hu.t2;have hw:=hu.w;unfold U at hla ht2 hw;refine aK h (λ_=>ah b (ad.dH u)^aT) (λy:Bool=>y=decide (x≥u.v0∨oU u.la u.t2 u.w)) (λ(y:Bool) w hy h=>?_) ?_
  ·rw[hy];refine ae (λc=>?_) λc=>?_
   ·have c:x≥u.v0∨oU u.la u.t2 u.w:=bV;refine af (G8 b u u.la x) h λr w h=>?_;have e:wU u u.la x=u.all u.la x:=(by unfold wU;rw[aC c]);rw[e];have e2:u.tick u.la=u:=(by unfold Wn.tick;simp);rw[e2]at h;exact au.aE rfl h.bk
   have c:¬(x≥u.v0∨oU u.la u.t2 u.w):=bV;have e:wU u u.la x=vJ (z5 u u.la x) u.la x:=(by unfold wU;rw[ay c]);rw[e];refine aK h (λ_=>ah b (ad.dH ((z5 u u.la x)))^aT) (λ_=>True) (λ_ w _ h=>?_) ?_
   ·have hs:=hu.z5 hu.la hx;have hT:=hu.la;generalize u.la=T at*
    generalize z5 u T x=s at*
    refine ac ⟨by decide,aj h rfl ?_⟩;refine af (jI T s.t0 hT hs.t0) h λr w h=>?_;obtain⟨hr,h⟩:=h.aB;rw[hr];refine aK h (λ_=>ah b (ad.dH ((vJ s T x)))^aT) (λ_=>True) (λ_ w _ h=>?_) ?_
    ·refine ac ⟨by decide,aj h rfl ?_⟩;exact au.aE rfl h.bk
    refine ac (aj h rfl ?_);refine ae (λc1=>?_) λc1=>?_
    ·have c1:oU T s.t0 s.w:=bJ c1;refine af (Br b s T x) h λ_ w h=>?_;refine aH h λw h=>ac (ac ⟨by decide,aj h rfl (aj h rfl ?_)⟩);refine af (jI T s.t1 hT hs.t1) h λr w h=>?_;obtain⟨hr,h⟩:=h.aB;rw[hr];refine aI h rfl ?_;refine ae (λc2=>?_) λc2=>?_
     ·have c2:oU T s.t1 s.w:=bJ c2;refine af (Br b (s.push T x) T x) h λ_ w h=>?_;have e:vJ s T x=(s.push T x).push T x:=(by unfold vJ;rw[aC c1,aC c2]);rw[e];exact⟨trivial,h.aG⟩
     ·have c2:¬oU T s.t1 s.w:=bQ c2;have e:vJ s T x=s.push T x:=(by unfold vJ;rw[aC c1,ay c2]);rw[e];exact⟨trivial,h.aG⟩
    have c1:¬oU T s.t0 s.w:=bQ c1;have hf:∀k,(vJ s T x=k)=((if s.t1=s.t0∧oU T s.t0 (s.w/4)then s.xM T x else if s.t2=s.t1∧oU T s.t0 (s.w/2)then s.s2 T x else s)=k):=λk=>by unfold vJ;rw[ay c1]
    have h:au w0 S R _ (ah b (ad.dH s)^aT):=h.aG;refine aK h (λ_=>ah b (ad.dH s)^aT) (λy:Bool=>y=decide (s.t1=s.t0∧oU T s.t0 (s.w/4))) (λ(y:Bool) w hy h=>?_) ?_
    ·rw[hy];refine ae (λc2=>?_) λc2=>?_
     ·have c2:s.t1=s.t0∧oU T s.t0 (s.w/4):=gk;refine af (mg b s 1 T x (.inl rfl)) h λr w h=>?_;refine af (mg b (NB s 1 T x) 2 T x (.inr rfl)) h λr w h=>?_;have e:vJ s T x=s.xM T x:=(by rw[hf,aC c2]);rw[e];have h:au w0 S R w (ah b (ad.dH ((s.xM T x)))^aT):=h;exact⟨trivial,h⟩
     have c2:¬(s.t1=s.t0∧oU T s.t0 (s.w/4)):=gk;refine aH h λw h=>ac (ac ⟨by decide,by decide,aj h rfl (aj h rfl ?_)⟩);refine ae (λc3=>?_) λc3=>?_
     ·have c3:s.t2=s.t1:=(by simpa using c3);refine ac (aj h rfl ?_);rw[U2 hs.w];refine ae (λc4=>?_) λc4=>?_
      ·have c4:oU T s.t0 (s.w/2):=bJ c4;refine af (mg b s 2 T x (.inr rfl)) h λr w h=>?_;have e:vJ s T x=s.s2 T x:=(by rw[hf,ay c2,aC ⟨c3,c4⟩]);rw[e];have h:au w0 S R w (ah b (ad.dH ((s.s2 T x)))^aT):=h;exact⟨trivial,h⟩
      ·have c4:¬oU T s.t0 (s.w/2):=bQ c4;have e:vJ s T x=s:=(by rw[hf,ay c2,ay (λhh=>c4 hh.2)]);rw[e];exact⟨trivial,h⟩
     ·have c3:¬s.t2=s.t1:=(by simpa using c3);have e:vJ s T x=s:=(by rw[hf,ay c2,ay (λhh=>c3 hh.1)]);rw[e];exact⟨trivial,h⟩
    ·refine aH h λw h=>ac (ac ⟨by decide,by decide,aj h rfl (aj h rfl ?_)⟩);refine ae (λc3=>?_) λc3=>?_
     ·have c3:s.t1=s.t0:=(by simpa using c3);refine ac (aj h rfl ?_);rw[U4 hs.w];exact⟨by rw[jk];simp[c3,oU],h⟩
     ·have c3:¬s.t1=s.t0:=(by simpa using c3);exact⟨by simp[c3],h⟩
   ·refine af (vN b u x 1 (by omega)) h λr w h=>?_;obtain⟨hr,h⟩:=h.aB;rw[hr];refine ae (λc1=>?_) λc1=>?_
    ·have c1:x≥u.v1:=bJ c1;refine af (mg b u 1 u.la x (.inl rfl)) h λr w h=>?_;refine af (mg b (NB u 1 u.la x) 2 u.la x (.inr rfl)) h λr w h=>?_;have e:z5 u u.la x=u.xM u.la x:=(by unfold z5;rw[aC c1]);rw[e];have h:au w0 S R w (ah b (ad.dH ((u.xM u.la x)))^aT):=h;exact⟨trivial,h⟩
    have c1:¬x≥u.v1:=bQ c1;refine af (vN b u x 2 (by omega)) h λr w h=>?_;obtain⟨hr,h⟩:=h.aB;rw[hr];refine ae (λc2=>?_) λc2=>?_
    ·have c2:x≥u.v2:=bJ c2;refine af (mg b u 2 u.la x (.inr rfl)) h λr w h=>?_;have e:z5 u u.la x=u.s2 u.la x:=(by unfold z5;rw[ay c1,aC c2]);rw[e];have h:au w0 S R w (ah b (ad.dH ((u.s2 u.la x)))^aT):=h;exact⟨trivial,h⟩
    ·have c2:¬x≥u.v2:=bQ c2;have e:z5 u u.la x=u:=(by unfold z5;rw[ay c1,ay c2]);rw[e];exact⟨trivial,h⟩
  ·refine aH h λw h=>?_;refine af (vN b u x 0 (by omega)) h λr w h=>?_;obtain⟨hr,h⟩:=h.aB;rw[hr];refine ae (λc1=>?_) λc1=>?_
   ·have c1:x≥u.v0:=bJ c1;exact⟨by simp[c1],h⟩
   have c1:¬x≥u.v0:=bQ c1;refine ac ⟨by decide,aj h rfl ?_⟩;refine ae (λc2=>?_) λc2=>?_
   ·have c2:u.la>u.t2:=bJ c2;refine ac (ac ⟨by decide,aj h rfl (aj h rfl ?_)⟩);rw[wu (n:=u.la-u.t2) (by omega) (by omega)];have:dF u.la u.t2=u.la-u.t2:=(by unfold dF;rw[ay (by omega)]);exact⟨by rw[jk];simp[c1,oU,this],h⟩
   ·have c2:¬u.la>u.t2:=bQ c2;have:¬oU u.la u.t2 u.w:=(by unfold oU dF;split<;>omega);exact⟨by simp[c1,this],h⟩
end NT

namespace xk
open bB bi _root_.Go.X.Target fZ eH NT
theorem sG(b nw:Nat)(v:Rm):bm (BI (some ⟨b,0⟩)) (ah b (ad.cN nw v)^ah nw (ad.dH v.m.w)) (λr=>bh (r=yI v.m) (ah b (ad.cN nw v)^ah nw (ad.dH v.m.w))):=
 br λw0 S R h=>by
  refine ac (aj h rfl (ae (λc=>?_) λc=>?_))
  ·have c:v.m.q.iO=true:=c;refine ac (aj h rfl ?_);exact au.aE (by unfold yI;rw[c];rfl) h.aG
  ·have c:v.m.q.iO=false:=c;refine ac (aj h rfl (ac ⟨by decide,aj h rfl ?_⟩));exact au.aE (by unfold yI;rw[c];rfl) h.aG
theorem Nc(b nw:Nat)(v:Rm)(s:Sm)(hs:oX s):bm (Sv (some ⟨b,2⟩) s) (ah b (ad.cN nw v)) (λr=>bh (r=rB v.m.r s) (ah b (ad.cN nw ({v with m:={v.m with r:=rU v.m.r s}})))):=
 br λw0 S R h=>by
  have h0:=hs.Dh.1;simp only[fj]at h0;repeat' (first
   |(refine aH h λw h=>?_)
   |(refine ac ?_)
   |(refine ar h rfl ?_)
   |(refine aj h rfl ?_)
   |(refine aJ h ?_)
   |(refine aI h rfl ?_)
   |(refine aw h (by rfl) λw h=>?_)
   |(refine aA h λn w h=>?_)
   |(refine aN h λw h=>?_)
   |(refine aU h rfl λw h=>?_;dsimp only[dj,over]at h)
   |(refine ae (λc=>?_) λc=>?_)
   |(refine⟨_,λ_ _ h=>h,?_⟩;dsimp only))
  all_goals simp only[p_,Gf,gK,Es,ne_eq]at*
  ·have e:rB v.m.r s=false:=(by simp[rB,fj,ED];omega);exact au.aE e.symm (h.du (b:=b) (L':=(ad.cN nw ({v with m:={v.m with r:=rU v.m.r s}}))) (by simp[rU,e])).aG
  ·rename_i c1;have e:rB v.m.r s=false:=by simp[rB,fj,ED];omega
   exact au.aE e.symm (h.du (b:=b) (L':=(ad.cN nw ({v with m:={v.m with r:=rU v.m.r s}}))) (by simp[rU,e])).aG
  ·rename_i c1;have e:rB v.m.r s=true:=by simp[rB,fj,ED];omega
   exact au.aE e.symm (h.du (b:=b) (L':=(ad.cN nw ({v with m:={v.m with r:=rU v.m.r s}}))) (by simp[rU,e])).aG
theorem JD(b nw:Nat)(v:Rm)(hv:UE v.m.p)(st li:Bool)(bw:Int):bm (S7 (some ⟨b,4⟩) st li bw) (ah b (ad.cN nw v)) (λ_=>ah b (ad.cN nw ({v with m:={v.m with p:=pU v.m.p st li bw}}))):=
 br λw0 S R h=>by
  have h0:=hv.n;have h1:=hv.full;repeat' (first
   |(refine aH h λw h=>?_)
   |(refine ac ?_)
   |(refine ar h rfl ?_)
   |(refine aj h rfl ?_)
   |(refine aJ h ?_)
   |(refine aI h rfl ?_)
   |(refine aw h (by rfl) λw h=>?_)
   |(refine aA h λn w h=>?_)
   |(refine aN h λw h=>?_)
   |(refine aU h rfl λw h=>?_;dsimp only[dj,over]at h)
   |(refine af (nl _ _ _ hv.dg (aX 320) (aX 256)) h λr w h=>?_;obtain⟨hr,h⟩:=h.aB;(try dsimp only at hr h);try rw[hr])
   |(refine ae (λc=>?_) λc=>?_)
   |(refine⟨_,λ_ _ h=>h,?_⟩;dsimp only))
  ·exact(h.du (b:=b) (L':=(ad.cN nw (({v with m:={v.m with p:=pU v.m.p st li bw}})))) (by
    have e:(!v.m.p.full&&st&&!li)=false:=by
     revert c;cases v.m.p.full<;>cases st<;>cases li<;>simp
    simp[pU,e])).aG
  ·have c1:((v.m.p.full||(!st))||li)=false:=(by assumption);have e:(!v.m.p.full&&st&&!li)=true:=by
    revert c1;cases v.m.p.full<;>cases st<;>cases li<;>simp
   have c:bw≥pW v.m.p.dg 320 256:=bJ c;exact(h.du (b:=b) (L':=(ad.cN nw (({v with m:={v.m with p:=pU v.m.p st li bw}})))) (by simp only[pU,e,gU,aC c])).aG
  ·have c1:((v.m.p.full||(!st))||li)=false:=(by assumption);have e:(!v.m.p.full&&st&&!li)=true:=by
    revert c1;cases v.m.p.full<;>cases st<;>cases li<;>simp
   have c:¬bw≥pW v.m.p.dg 320 256:=bQ c;have hf:v.m.p.full=false:=by
    revert e;cases v.m.p.full<;>simp
   have hn:=h1 hf;exact(h.du (b:=b) (L':=(ad.cN nw (({v with m:={v.m with p:=pU v.m.p st li bw}})))) (by
    have e3:IntKind.i64.wrap (v.m.p.n+1)=v.m.p.n+1:=wi (by omega) (by omega);have e4:decide (v.m.p.n+1≥3)=decide (v.m.p.n+1=3):=(by rw[jk];simp;omega);simp only[pU,e,gU,ay c,e3,e4])).aG
theorem Ev(b nw:Nat)(v:Rm)(ao ph:Int)(hp:0≤ph∧ph<100):bm (KM (some ⟨b,7⟩) ao ph) (ah b (ad.cN nw v)) (λ_=>ah b (ad.cN nw ({v with m:={v.m with c:=K0 ao ph}}))):=
 br λw0 S R h=>by
  have e:ph.tmod 8=ph%8:=Eo hp.1;rw[e];repeat' (first
   |(refine aH h λw h=>?_)
   |(refine ac ?_)
   |(refine ar h rfl ?_)
   |(refine aj h rfl ?_)
   |(refine aJ h ?_)
   |(refine aI h rfl ?_)
   |(refine aw h (by rfl) λw h=>?_)
   |(refine aA h λn w h=>?_)
   |(refine aN h λw h=>?_)
   |(refine aU h rfl λw h=>?_;dsimp only[dj,over]at h)
   |(refine ae (λc=>?_) λc=>?_)
   |(refine⟨_,λ_ _ h=>h,?_⟩;dsimp only))
  ·exfalso;have c:ph%8<0:=bJ c;omega
  ·exact(h.du (b:=b) (L':=(ad.cN nw (({v with m:={v.m with c:=K0 ao ph}})))) (by simp only[K0])).aG
theorem PT(b nw:Nat)(v:Rm):bm (S9 (some ⟨b,7⟩)) (ah b (ad.cN nw v)) (λr=>bh (r=cG v.m.c) (ah b (ad.cN nw v))):=
 br λw0 S R h=>by
  repeat' (first
   |(refine aH h λw h=>?_)
   |(refine ac ?_)
   |(refine ar h rfl ?_)
   |(refine aj h rfl ?_)
   |(refine aJ h ?_)
   |(refine aI h rfl ?_)
   |(refine aw h (by rfl) λw h=>?_)
   |(refine aA h λn w h=>?_)
   |(refine aN h λw h=>?_)
   |(refine aU h rfl λw h=>?_;dsimp only[dj,over]at h)
   |(refine ae (λc=>?_) λc=>?_)
   |(refine⟨_,λ_ _ h=>h,?_⟩;dsimp only))
  all_goals exact au.aE (by simp_all[cG]) h.aG
theorem Jq(b nw:Nat)(v:Rm)(hv:Af v.m.c)(ao bG be fl up one:Int)(hn:U ao):bm (S6 (some ⟨b,7⟩) ao bG be fl up one) (ah b (ad.cN nw v)) (λ_=>ah b (ad.cN nw ({v with m:={v.m with c:=cU v.m.c ao bG be fl up one}}))):=
 br λw0 S R h=>by
  have hph:=hv.ph;refine ac (aj h rfl (af (jI ao v.m.c.kE hn hv.kE) h λr w h=>?_));obtain⟨hr,h⟩:=h.aB;refine aK h (λ_=>ah b (ad.cN nw v)) (λy:Bool=>y=cB v.m.c ao bG be fl up one) (λ(y:Bool) w hy h=>?_) ?_
  ·refine ae (λc=>?_) λc=>?_
   ·refine ac (aj h rfl ?_);rw[wi (n:=v.m.c.ph+1) (by omega) (by omega)];refine af (Ev b nw v ao (v.m.c.ph+1) (by omega)) h λ_ w h=>?_;have e:cU v.m.c ao bG be fl up one=K0 ao (v.m.c.ph+1):=by unfold cU;rw[←hy,c];rfl
    rw[e];exact h.bk
   ·have e:cU v.m.c ao bG be fl up one=v.m.c:=(by unfold cU;rw[←hy,c];rfl);rw[e];exact h
  ·repeat' (first
    |(refine aH h λw h=>?_)
    |(refine ac ?_)
    |(refine ar h rfl ?_)
    |(refine aj h rfl ?_)
    |(refine aJ h ?_)
    |(refine aI h rfl ?_)
    |(refine aw h (by rfl) λw h=>?_)
    |(refine aA h λn w h=>?_)
    |(refine aN h λw h=>?_)
    |(refine aU h rfl λw h=>?_;dsimp only[dj,over]at h)
    |(refine ae (λc=>?_) λc=>?_)
    |(refine⟨_,λ_ _ h=>h,?_⟩;dsimp only))
   all_goals refine⟨?_,h.aG⟩
   ·simp only[p_]at c;simp[cB,c,hr]
   ·rename_i c1;simp only[p_]at c;simp[cB,c,hr]
   ·rename_i c1;simp only[Gf,ne_eq]at c c1;simp only[cB,ay c,ay c1,hr]
def Rel(v:Rm):Prop:=v.m.b.on=true→v.set=decide (v.m.b.jN≠0)∧(v.set=true→v.oR=v.m.b.jN)
abbrev wB(v:Rm)(x:Pb):Rm:={v with m:={v.m with b:=x}}
theorem GO(b nw:Nat)(v:Rm)(hv:Im v.m.b)(hR:Rel v)(ao bG fl floor:Int)(st:Bool)(hn:U ao)(hrt:U bG):bm (S8 (some ⟨b,9⟩) ao bG st fl floor) (ah b (ad.cN nw v))
  (λr=>wZ (λu:Rm=>r=(bU v.m.b ao bG st fl floor).1∧u.m={v.m with b:=(bU v.m.b ao bG st fl floor).2}∧Rel u∧u.g=v.g) (λu=>ah b (ad.cN nw u))):=
 br λw0 S R h=>by
  refine aK h (λ_=>ah b (ad.cN nw v)) (λy:Bool=>y=Ak v.m.b ao) (λ(y:Bool) w hy h=>?_) ?_
  ·rw[hy];refine aK h (λ_=>ah b (ad.cN nw ((wB v (lr v.m.b ao bG))))) (λ_=>True) (λ_ w _ h=>?_) ?_
   ·have eon:(lr v.m.b ao bG).on=v.m.b.on:=(by unfold lr;split<;>rfl);have etil:(lr v.m.b ao bG).jN=v.m.b.jN:=(by unfold lr;split<;>rfl);have hR2:Rel (wB v (lr v.m.b ao bG)):=λhh=>by
     have:=hR (by rw[←eon];exact hh);simpa [etil]using this
    unfold bU;refine aK h (λ_=>ah b (ad.cN nw ((wB v (lr v.m.b ao bG))))) (λy:Bool=>y=(Ak v.m.b ao&&!v.m.b.on)) (λ(y:Bool) w hy h=>?_) ?_
    ·rw[hy];generalize lr v.m.b ao bG=x at*
     refine ae (λc=>?_) λc=>?_
     ·rw[aC c];repeat' (first
       |(refine aH h λw h=>?_)
       |(refine ac ?_)
       |(refine ar h rfl ?_)
       |(refine aj h rfl ?_)
       |(refine aJ h ?_)
       |(refine aI h rfl ?_)
       |(refine aw h (by rfl) λw h=>?_)
       |(refine aA h λn w h=>?_)
       |(refine aN h λw h=>?_)
       |(refine aU h rfl λw h=>?_;dsimp only[dj,over]at h))
      exact(au.qH (h.du (b:=b) (L':=(ad.cN nw (({wB v {x with on:=true,jN:=0,rd:=false}with set:=false})))) (by simp)) {wB v {x with on:=true,jN:=0,rd:=false}with set:=false} ⟨rfl,rfl,(λ_=>⟨by simp,λhh=>by cases hh⟩),rfl⟩).bk
     rw[ay (by rw[c];simp)];refine ac (aj h rfl ?_);refine ae (λc2=>?_) λc2=>?_
     ·have c2:v.m.b.on=false:=(by rw[←eon];simpa using c2);rw[ay (by rw[c2];simp)];exact(h.qH (wB v x) ⟨rfl,rfl,hR2,rfl⟩).bk
     have c2:v.m.b.on=true:=(by rw[←eon];simpa using c2);rw[aC c2];obtain⟨r1,r2⟩:=hR2 (eon.trans c2);refine ac (aj h rfl ?_);unfold BG;refine ae (λc3=>?_) λc3=>?_
     ·have c3:v.set=false:=(by simpa using c3);have e3:x.jN=0:=by
       have r1:v.set=decide (x.jN≠0):=r1;rw[c3]at r1;simpa using r1.symm
      rw[aC e3];refine ae (λc4=>?_) λc4=>?_
      ·rw[aC (bJ c4)];repeat' (first
        |(refine aH h λw h=>?_)
        |(refine ac ?_)
        |(refine ar h rfl ?_)
        |(refine aj h rfl ?_)
        |(refine aJ h ?_)
        |(refine aI h rfl ?_)
        |(refine aw h (by rfl) λw h=>?_)
        |(refine aA h λn w h=>?_)
        |(refine aN h λw h=>?_)
        |(refine aU h rfl λw h=>?_;dsimp only[dj,over]at h)
        |(refine af (fz ao 200000000 hn (aX _)) h λr w h=>?_;obtain⟨hr,h⟩:=h.aB;(try dsimp only at hr h);try rw[hr]))
       have e4:bA ao 200000000≠0:=by
        have:=hn.1;unfold bA;split<;>omega
       exact(au.qH (h.du (b:=b) (L':=(ad.cN nw (({wB v {x with jN:=bA ao 200000000,rd:=false}with set:=true,oR:=bA ao 200000000})))) (by simp)) {wB v {x with jN:=bA ao 200000000,rd:=false}with set:=true,oR:=bA ao 200000000} ⟨rfl,rfl,(λ_=>⟨by simp[e4],λ_=>rfl⟩),rfl⟩).bk
      ·rw[ay (bQ c4)];exact(h.qH (wB v x) ⟨rfl,rfl,hR2,rfl⟩).bk
     have c3:v.set=true:=(by simpa using c3);have e3:x.jN≠0:=by
      have r1:v.set=decide (x.jN≠0):=r1;rw[c3]at r1;simpa using r1.symm
     have e5:v.oR=x.jN:=r2 c3;rw[ay e3];repeat' (first
      |(refine aH h λw h=>?_)
      |(refine ac ?_)
      |(refine ar h rfl ?_)
      |(refine aj h rfl ?_)
      |(refine aJ h ?_)
      |(refine aI h rfl ?_)
      |(refine aw h (by rfl) λw h=>?_)
      |(refine aA h λn w h=>?_)
      |(refine aN h λw h=>?_)
      |(refine aU h rfl λw h=>?_;dsimp only[dj,over]at h))
     refine aK h (λ_=>ah b (ad.cN nw ((wB v {x with rd:=x.rd||st})))) (λy:Bool=>y=((x.rd||st)&&decide (ao>x.jN))) (λ(y:Bool) w hy h=>?_) ?_
     ·rw[hy];refine ae (λc4=>?_) λc4=>?_
      ·simp only[fG,gK]at c4;rw[ay (by rw[c4.1];simp),ay (by omega)];repeat' (first
        |(refine aH h λw h=>?_)
        |(refine ac ?_)
        |(refine ar h rfl ?_)
        |(refine aj h rfl ?_)
        |(refine aJ h ?_)
        |(refine aI h rfl ?_)
        |(refine aw h (by rfl) λw h=>?_)
        |(refine aA h λn w h=>?_)
        |(refine aN h λw h=>?_)
        |(refine aU h rfl λw h=>?_;dsimp only[dj,over]at h))
       exact(au.qH (h.du (b:=b) (L':=(ad.cN nw (({wB v {x with rd:=x.rd||st,kE:=ao,on:=false}with set:=false})))) (by simp)) {wB v {x with rd:=x.rd||st,kE:=ao,on:=false}with set:=false} ⟨rfl,rfl,(λhh=>by cases hh),rfl⟩).bk
      ·have hR3:Rel (wB v {x with rd:=x.rd||st}):=λhh=>hR2 hh;by_cases c5:(x.rd||st)=true
       ·rw[ay (by rw[c5];simp),aC (by rw[c5]at c4;simp at c4;omega)];exact(h.qH (wB v {x with rd:=x.rd||st}) ⟨rfl,rfl,hR3,rfl⟩).bk
       ·rw[aC (by simpa using c5)];exact(h.qH (wB v {x with rd:=x.rd||st}) ⟨rfl,rfl,hR3,rfl⟩).bk
     ·repeat' (first
       |(refine aH h λw h=>?_)
       |(refine ac ?_)
       |(refine ar h rfl ?_)
       |(refine aj h rfl ?_)
       |(refine aJ h ?_)
       |(refine aI h rfl ?_)
       |(refine aw h (by rfl) λw h=>?_)
       |(refine aA h λn w h=>?_)
       |(refine aN h λw h=>?_)
       |(refine aU h rfl λw h=>?_;dsimp only[dj,over]at h)
       |(refine ae (λc=>?_) λc=>?_))
      ·have c:(x.rd||st)=true:=c;exact⟨by rw[c,e5];rfl,(h.du (b:=b) (L':=(ad.cN nw ((wB v {x with rd:=x.rd||st})))) (by simp)).aG⟩
      ·have c:(x.rd||st)=false:=c;exact⟨by rw[c];rfl,(h.du (b:=b) (L':=(ad.cN nw ((wB v {x with rd:=x.rd||st})))) (by simp)).aG⟩
    ·refine ae (λc=>?_) λc=>?_
     ·refine ac (aj h rfl ?_);exact⟨by rw[c,eon];rfl,h⟩
     ·exact⟨by rw[c];rfl,h⟩
   ·refine aK h (λ_=>ah b (ad.cN nw v)) (λy:Bool=>y=ya v.m.b ao bG) (λ(y:Bool) w hy h=>?_) ?_
    ·rw[hy];unfold lr;refine ae (λc=>?_) λc=>?_
     ·rw[aC c];repeat' (first
       |(refine aH h λw h=>?_)
       |(refine ac ?_)
       |(refine ar h rfl ?_)
       |(refine aj h rfl ?_)
       |(refine aJ h ?_)
       |(refine aI h rfl ?_)
       |(refine aw h (by rfl) λw h=>?_)
       |(refine aA h λn w h=>?_)
       |(refine aN h λw h=>?_)
       |(refine aU h rfl λw h=>?_;dsimp only[dj,over]at h))
      exact⟨trivial,(h.du (b:=b) (L':=(ad.cN nw ((wB v {v.m.b with dg:=bG,kE:=ao})))) (by simp)).aG⟩
     ·rw[ay (by rw[c];simp)];exact⟨trivial,h⟩
    ·repeat' (first
      |(refine aH h λw h=>?_)
      |(refine ac ?_)
      |(refine ar h rfl ?_)
      |(refine aj h rfl ?_)
      |(refine aJ h ?_)
      |(refine aI h rfl ?_)
      |(refine aw h (by rfl) λw h=>?_)
      |(refine aA h λn w h=>?_)
      |(refine aN h λw h=>?_)
      |(refine aU h rfl λw h=>?_;dsimp only[dj,over]at h)
      |(refine ae (λc=>?_) λc=>?_))
     all_goals refine⟨?_,h.aG⟩
     all_goals simp_all[ya]
     all_goals(intro _;omega)
  ·refine ac (aj h rfl (ae (λc=>?_) λc=>?_))
   ·refine ac (aj h rfl (af (fz v.m.b.kE 10000000000 hv.kE (aX _)) h λr w h=>?_));obtain⟨hr,h⟩:=h.aB;rw[hr];exact⟨by unfold Ak;rw[c];rfl,h.aG⟩
   ·exact⟨by unfold Ak;rw[c];rfl,h⟩
abbrev wQ(v:Rm)(x:Pl):Rm:={v with m:={v.m with q:=x}}
theorem wF(b nw:Nat)(v:Rm):bm (KJ (some ⟨b,15⟩)) (ah b (ad.cN nw v)) (λ_=>ah b (ad.cN nw ((wQ v {v.m.q with uq:=false,bw:=0})))):=
 br λw0 S R h=>by
  repeat' (first
   |(refine aH h λw h=>?_)
   |(refine ac ?_)
   |(refine ar h rfl ?_)
   |(refine aj h rfl ?_)
   |(refine aJ h ?_)
   |(refine aI h rfl ?_)
   |(refine aw h (by rfl) λw h=>?_)
   |(refine aA h λn w h=>?_)
   |(refine aN h λw h=>?_)
   |(refine aU h rfl λw h=>?_;dsimp only[dj,over]at h))
  exact(h.du (b:=b) (L':=(ad.cN nw ((wQ v {v.m.q with uq:=false,bw:=0})))) (by simp)).aG
theorem zG(b nw:Nat)(v:Rm)(s:Sm):bm (OP (some ⟨b,15⟩) s) (ah b (ad.cN nw v)) (λ_=>ah b (ad.cN nw ((wQ v (kJ v.m.q s))))):=
 br λw0 S R h=>by
  repeat' (first
   |(refine aH h λw h=>?_)
   |(refine ac ?_)
   |(refine ar h rfl ?_)
   |(refine aj h rfl ?_)
   |(refine aJ h ?_)
   |(refine aI h rfl ?_)
   |(refine aw h (by rfl) λw h=>?_)
   |(refine aA h λn w h=>?_)
   |(refine aN h λw h=>?_)
   |(refine aU h rfl λw h=>?_;dsimp only[dj,over]at h))
  exact(h.du (b:=b) (L':=(ad.cN nw ((wQ v (kJ v.m.q s))))) (by simp[kJ])).aG
theorem JB(a c:Int)(ha:U a)(hc:U c):bm (Ts a c) aT (λr=>bh (r=decide (apart a c≤a/8)) aT):=
 br λw0 S R h=>by
  refine au.aE ?_ h;unfold U at ha hc;have e1:IntKind.u64.wrap ((if c>a then c else a)-(if c<a then c else a))=apart a c:=by
   unfold apart;rw[wu (by(repeat' split)<;>omega) (by(repeat' split)<;>omega)]
   (repeat' split)<;>omega
  have e2:IntKind.u64.wrap (a.tdiv (8:Int))=a/8:=by
   rw[lP ha.1,wu (by omega) (by omega)]
  rw[e1,e2]
theorem N6{a b:Int}(ha:U a)(hb:U b):IntKind.u64.wrap ((IntKind.u64.wrap ((IntKind.u64.wrap (a.tdiv (2:Int)))+(IntKind.u64.wrap (b.tdiv (2:Int)))))+(IntKind.u64.wrap ((IntKind.u64.wrap ((a.tmod (2:Int))+(b.tmod (2:Int)))).tdiv (2:Int))))=Iy a b:=by
 unfold U at ha hb;rw[lP ha.1,lP hb.1,Eo ha.1,Eo hb.1];have e:IntKind.u64.wrap (a%2+b%2)=a%2+b%2:=wu (by omega) (by omega);rw[e,lP (by omega)];unfold Iy;simp only[wm];omega
theorem Jx(b nw:Nat)(v:Rm)(hv:qF v.m.q)(s:Sm)(hs:oX s):bm (SY (some ⟨b,15⟩) s) (ah b (ad.cN nw v)) (λ_=>ah b (ad.cN nw ((wQ v (sZ v.m.q s))))):=
 br λw0 S R h=>by
  have hd:=mS hs.del hv.d0;have ht:=mS hs.ao hv.t0;have hl:=mS hv.be hv.l0;refine aA h λn1 w h=>?_;repeat' (first
   |(refine aH h λw h=>?_)
   |(refine ac ?_)
   |(refine ar h rfl ?_)
   |(refine aj h rfl ?_)
   |(refine aJ h ?_)
   |(refine aI h rfl ?_)
   |(refine aw h (by rfl) λw h=>?_)
   |(refine aA h λn w h=>?_)
   |(refine aN h λw h=>?_)
   |(refine aU h rfl λw h=>?_;dsimp only[dj,over]at h)
   |(refine af (jI _ _ hs.del hv.d0) h λr w h=>?_;obtain⟨hr,h⟩:=h.aB;(try dsimp only at hr h);try rw[hr])
   |(refine af (jI _ _ hv.be hv.l0) h λr w h=>?_;obtain⟨hr,h⟩:=h.aB;(try dsimp only at hr h);try rw[hr])
   |(refine af (jI _ _ hs.ao hv.t0) h λr w h=>?_;obtain⟨hr,h⟩:=h.aB;(try dsimp only at hr h);try rw[hr]))
  refine aK h (λ_=>ah n1 (Ks.mk aO s)^ah b (ad.cN nw v)) (λ_=>nR v.m.q s=some (pW (dF (gp s) v.m.q.d0) 1000000000 (dF (iw s) v.m.q.t0))) (λ_ w hm h=>?_) ?_
  ·have hU:=E9 hv hs hm;have e:sZ v.m.q s=wg v.m.q s (pW (dF (gp s) v.m.q.d0) 1000000000 (dF (iw s) v.m.q.t0)):=(by unfold sZ;rw[hm]);rw[e];repeat' (first
    |(refine aH h λw h=>?_)
    |(refine ac ?_)
    |(refine ar h rfl ?_)
    |(refine aj h rfl ?_)
    |(refine aJ h ?_)
    |(refine aI h rfl ?_)
    |(refine aw h (by rfl) λw h=>?_)
    |(refine aA h λn w h=>?_)
    |(refine aN h λw h=>?_)
    |(refine aU h rfl λw h=>?_;dsimp only[dj,over]at h)
    |(refine af (nl _ _ _ hd (aX 1000000000) ht) h λr w h=>?_;obtain⟨hr,h⟩:=h.aB;(try dsimp only at hr h);try rw[hr]))
   generalize pW (dF (gp s) v.m.q.d0) 1000000000 (dF (iw s) v.m.q.t0)=x at*
   have h:au _ _ _ _ (ah n1 (Ks.mk aO s)^ah b (ad.cN nw v)):=h.aG;refine aK h (λ_=>ah n1 (Ks.mk aO s)^ah b (ad.cN nw v)) (λy:Bool=>y=decide (v.m.q.bw>0∧apart v.m.q.bw x≤v.m.q.bw/8)) (λ(y:Bool) w hy h=>?_) ?_
   ·rw[hy];refine ae (λc=>?_) λc=>?_
    ·have c:v.m.q.bw>0∧apart v.m.q.bw x≤v.m.q.bw/8:=bV;have e:wg v.m.q s x={v.m.q with bw:=Iy v.m.q.bw x,iO:=true,n:=0}:=(by unfold wg;rw[aC c]);rw[e];have ea:=N6 hv.bw hU;refine aH h λw h=>ac (ac (aj h rfl (aj h rfl ?_)));dsimp only;rw[ea];repeat' (first
      |(refine aH h λw h=>?_)
      |(refine ac ?_)
      |(refine ar h rfl ?_)
      |(refine aj h rfl ?_)
      |(refine aJ h ?_)
      |(refine aI h rfl ?_)
      |(refine aw h (by rfl) λw h=>?_)
      |(refine aA h λn w h=>?_)
      |(refine aN h λw h=>?_)
      |(refine aU h rfl λw h=>?_;dsimp only[dj,over]at h))
     exact(h.du (b:=b) (L':=(ad.cN nw ((wQ v {v.m.q with bw:=Iy v.m.q.bw x,iO:=true,n:=0})))) (by simp)).aG
    ·have c:¬(v.m.q.bw>0∧apart v.m.q.bw x≤v.m.q.bw/8):=bV;have e:wg v.m.q s x=kJ {v.m.q with bw:=x} s:=(by unfold wg;rw[ay c]);rw[e];refine ac (aU h rfl λw h=>?_);have h:=(h.du (b:=b) (L':=(ad.cN nw ((wQ v {v.m.q with bw:=x})))) (by simp[dj,over]));have h:au _ _ _ _ (ah n1 (Ks.mk aO s)^ah b (ad.cN nw ((wQ v {v.m.q with bw:=x})))):=h.aG;refine ar (x:=s) h rfl ?_;refine af (zG b nw (wQ v {v.m.q with bw:=x}) s) h λ_ w h=>?_;exact h.aG
   ·refine ac (aj h rfl (ae (λc=>?_) λc=>?_))
    ·refine ac (aj h rfl (af (JB v.m.q.bw x hv.bw hU) h λr w h=>?_));obtain⟨hr,h⟩:=h.aB;have c:v.m.q.bw>0:=bJ c;exact⟨by rw[hr];simp[c],h.aG⟩
    ·have c:¬v.m.q.bw>0:=bQ c;exact⟨by simp[c],h.aG⟩
  ·refine ae (λc=>?_) λc=>?_
   ·have c:dF (gp s) v.m.q.d0=0∨dF (iw s) v.m.q.t0=0:=bV;have e:sZ v.m.q s=v.m.q:=(by unfold sZ nR;rw[aC c]);rw[e];exact h.aG
   have c:¬(dF (gp s) v.m.q.d0=0∨dF (iw s) v.m.q.t0=0):=bV;refine af (nl _ _ _ hd (aX 50) (aX 256)) h λr w h=>?_;obtain⟨hr,h⟩:=h.aB;rw[hr];refine ae (λc2=>?_) λc2=>?_
   ·have e:sZ v.m.q s=v.m.q:=(by unfold sZ nR;rw[ay c,aC (bJ c2)]);rw[e];exact h.aG
   ·exact⟨by unfold nR;rw[ay c,ay (bQ c2)],h.aG⟩
theorem Jy(b nw:Nat)(v:Rm)(hv:qF v.m.q)(o:Bool)(s:Sm)(hs:oX s):bm (Sw (some ⟨b,15⟩) o s) (ah b (ad.cN nw v)) (λ_=>ah b (ad.cN nw ((wQ v (xu v.m.q o s))))):=
 br λw0 S R h=>by
  refine aA h λn1 w h=>?_;repeat' (first
   |(refine aH h λw h=>?_)
   |(refine ac ?_)
   |(refine ar h rfl ?_)
   |(refine aj h rfl ?_)
   |(refine aJ h ?_)
   |(refine aI h rfl ?_)
   |(refine aw h (by rfl) λw h=>?_)
   |(refine aA h λn w h=>?_)
   |(refine aN h λw h=>?_)
   |(refine aU h rfl λw h=>?_;dsimp only[dj,over]at h)
   |(refine af (fz _ _ hv.be hs.be) h λr w h=>?_;obtain⟨hr,h⟩:=h.aB;(try dsimp only at hr h);try rw[hr]))
  have hq1:=hv.add hs;have hdef:xu v.m.q o s=if(lI v.m.q s).iO=false∧(lI v.m.q s).uq=false then(if gr s>0 then kJ (lI v.m.q s) s else lI v.m.q s)
    else if(lI v.m.q s).iO=false∧qN s=true then gi (lI v.m.q s)else Cc (fU (lI v.m.q s) o) o s:=rfl
  rw[hdef];have h:=(h.du (b:=b) (L':=(ad.cN nw ((wQ v (lI v.m.q s))))) (by simp[lI]));have e1:v.m.q.iO=(lI v.m.q s).iO:=rfl;have e2:v.m.q.uq=(lI v.m.q s).uq:=rfl;rw[e1];generalize lI v.m.q s=u at*
  have h:au _ _ _ _ (ah n1 (Ks.mk aO s)^ah b (ad.cN nw ((wQ v u)))):=h.aG;have hn:=hq1.n;have htick:∀(w:World),au w0 S R w (ah n1 (Ks.mk aO s)^ah b (ad.cN nw ((wQ v u))))→∀K:WP,(∀w,au w0 S R w (ah n1 (Ks.mk aO s)^ah b (ad.cN nw ((wQ v (fU u o)))))→K w)→
    aq o (deref (some ⟨b,15⟩) λq11=>ld [.int .i64] ⟨q11.b,q11.o+3⟩ λ(x12:Int)=>deref (some ⟨b,15⟩) λq13=>st ⟨q13.b,q13.o+3⟩ [.int .i64 (IntKind.i64.wrap (x12+(1:Int)))]<|K) K w:=by
   intro w h K hK;refine ae (λc=>?_) λc=>?_
   ·refine ac (aj h rfl (ac ?_));dsimp only;rw[wi (n:=u.n+1) (by omega) (by omega)];refine aU h rfl λw h=>hK w ?_;have h:=(h.du (b:=b) (L':=(ad.cN nw ((wQ v (fU u o))))) (by rw[c];simp[fU,dj,over]));exact h.aG
   ·have e:fU u o=u:=(by unfold fU;rw[c];rfl);exact hK w (by rw[e];exact h)
  refine ae (λc=>?_) λc=>?_
  ·have c:u.iO=true:=c;rw[ay (by rw[c];simp),ay (by rw[c];simp)];have hnu:=hq1.nu c;refine aK h (λ_=>ah n1 (Ks.mk aO s)^ah b (ad.cN nw ((wQ v (fU u o))))) (λ_=>True) (λ_ w _ h=>?_) (htick _ h _ λw h=>⟨trivial,h⟩);have hu2:(fU u o).iO=true:=(by cases o<;>exact c);unfold Cc;rw[aC hu2];refine ac (aj h rfl (ae (λc2=>?_) λc2=>?_))
   ·have c2:(fU u o).n≥48:=bJ c2;have hq:o=true∧(fU u o).n=48:=by
     cases o with
     |false=>exfalso;have c2:u.n≥48:=c2;omega
     |true=>exact⟨rfl,by have c2:u.n+1≥48:=c2;show u.n+1=48;omega⟩
    rw[aC hq];generalize fU u o=x at*
    have e9:({gi x with n:=0}:Pl)=⟨false,false,0,0,x.be,x.t0,x.d0,x.l0⟩:=rfl;rw[e9];repeat' (first
     |(refine aH h λw h=>?_)
     |(refine ac ?_)
     |(refine ar h rfl ?_)
     |(refine aj h rfl ?_)
     |(refine aJ h ?_)
     |(refine aI h rfl ?_)
     |(refine aw h (by rfl) λw h=>?_)
     |(refine aA h λn w h=>?_)
     |(refine aN h λw h=>?_)
     |(refine aU h rfl λw h=>?_;dsimp only[dj,over]at h))
    have h:=(h.du (b:=b) (L':=(ad.cN nw ((wQ v {x with iO:=false,n:=0})))) (by simp));refine af (wF b nw (wQ v {x with iO:=false,n:=0})) h λ_ w h=>?_;exact h.aG
   ·have c2:¬(fU u o).n≥48:=bQ c2;rw[ay (by omega)];exact h.aG
  have c:u.iO=false:=c;refine ac (aj h rfl (ae (λc2=>?_) λc2=>?_))
  ·have c2:u.uq=false:=gk;rw[aC ⟨c,c2⟩];refine aj h rfl (ae (λc3=>?_) λc3=>?_)
   ·rw[aC (bJ c3)];refine ar (x:=s) h rfl ?_;refine af (zG b nw (wQ v u) s) h λ_ w h=>?_;exact h.aG
   ·rw[ay (bQ c3)];exact h.aG
  have c2:u.uq=true:=gk;rw[ay (by rw[c2];simp)];have hlv:gi u={u with uq:=false,bw:=0}:=by unfold gi;rw[←c]
  refine aj h rfl (ae (λc3=>?_) λc3=>?_)
  ·rw[aC ⟨c,c3⟩,hlv];refine af (wF b nw (wQ v u)) h λ_ w h=>?_;exact h.aG
  rw[ay (by rw[show qN s=false from c3];simp)];refine aK h (λ_=>ah n1 (Ks.mk aO s)^ah b (ad.cN nw ((wQ v (fU u o))))) (λ_=>True) (λ_ w _ h=>?_) (htick _ h _ λw h=>⟨trivial,h⟩);have hu2:(fU u o).iO=false:=by cases o<;>exact c
  have tk:=Ie.H4 hq1 o;unfold Cc;rw[ay (by rw[hu2];simp)];have hlv:gi (fU u o)={fU u o with uq:=false,bw:=0}:=by unfold gi;rw[←hu2]
  generalize fU u o=x at*
  refine ac (aj h rfl (ae (λc4=>?_) λc4=>?_))
  ·rw[aC (bJ c4),hlv];refine af (wF b nw (wQ v x)) h λ_ w h=>?_;exact h.aG
  have c4:¬x.n>16:=bQ c4;rw[ay c4];refine aK h (λ_=>ah n1 (Ks.mk aO s)^ah b (ad.cN nw ((wQ v x)))) (λy:Bool=>y=decide (x.n≥4∧gr s>0)) (λ(y:Bool) w hy h=>?_) ?_
  ·rw[hy];refine ae (λc5=>?_) λc5=>?_
   ·rw[aC (bJ c5)];refine ar (x:=s) h rfl ?_;refine af (Jx b nw (wQ v x) (tk (λ_=>by omega) hu2) s hs) h λ_ w h=>?_;exact h.aG
   ·rw[ay (bQ c5)];exact h.aG
  ·refine ac (aj h rfl (ae (λc5=>?_) λc5=>?_))
   ·have c5:x.n≥4:=bJ c5;exact aj h rfl ⟨by rw[jk];simp[c5],h⟩
   ·have c5:¬x.n≥4:=bQ c5;exact⟨by simp[c5],h⟩
end xk

end Go.X
