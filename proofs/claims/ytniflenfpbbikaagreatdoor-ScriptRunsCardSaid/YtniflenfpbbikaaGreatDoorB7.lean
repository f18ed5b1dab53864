/- Contracts. -/
import Derived.Test.YtniflenfpbbikaaGreatDoorB6
set_option linter.all false
set_option autoImplicit true
set_option relaxedAutoImplicit true
namespace Go.X
open IntKind (u64 i64)
open Go.Proofs
namespace Lu
open bH bp eY fV eI
abbrev rL(m0 c0:Int)(v:Sk)(sl:Sl)(m:Nat):List Lf:=[aE v.id,aE m0,aE c0,aE 1073741824,aB (bU v.bf),aB (bN v.bf),aB (bW v.bf),aY sl,aB v.bd.2,
 aB (pD v.sp),aB (pT v.sp),aB (pF v.sp),aB (pL v.sp),bc (pH v.sp),aB (pG v.sp),aB (oJ v.sp),aB (nI v.sp),aB (m_ v.sp),aB (nH v.sp),bc (ob v.sp),
 .ptr (some ⟨m,0⟩),aB v.out,aB v.nx]
theorem KX(b)(m0 c0:Int)(v sl m)(n:Int)(ho:0≤v.out∧v.out<9223372036854775808)(hn:n<9223372036854775808):bu (VF (some ⟨b,0⟩) n)
  (af b (rL m0 c0 v sl m)) (λr=>bs (r=(cv v n).1) (af b (rL m0 c0 (cv v n).2 sl m))):=
 bC λw0 S R h=>by
  have h:=h.le (aJ _);refine aQ h (λ_=>af b (rL m0 c0 v sl m)^bg) (λ_=>1≤n∧n≤v.out) (λ_ w hc h=>?_) ?_
  ·have e:cv v n=(0,{v with out:=v.out-n}):=(by unfold cv;rw[ay (by omega)]);rw[e];have e1:u64.wrap (v.out-u64.wrap n)=v.out-n:=(by rw[ja (n:=n),ja]);refine ac (ah (x:=v.out) h rfl (ac (aA h b (rL m0 c0 {v with out:=v.out-n} sl m) rfl rfl (by rw[e1];rfl) λw h=>?_)));exact au.aH rfl h.aI
  ·refine ae (λc=>?_) λc=>?_
   ·have c:n<1:=bV c;have e:cv v n=(1,v):=(by unfold cv;rw[aG (by omega)]);rw[e];exact au.aH rfl h.aI
   ·have c:¬n<1:=bY c;refine ac (ah (x:=v.out) h rfl (ae (λc2=>?_) λc2=>?_))
    ·have c2:u64.wrap n>v.out:=bV c2;rw[ja]at c2;have e:cv v n=(1,v):=(by unfold cv;rw[aG (by omega)]);rw[e];exact au.aH rfl h.aI
    ·have c2:¬u64.wrap n>v.out:=bY c2;rw[ja]at c2;exact⟨⟨by omega,by omega⟩,h⟩
theorem HE(b)(m0 c0:Int)(v sl m)(upto:Int):bu (T0 (some ⟨b,3⟩) upto)
  (af b (rL m0 c0 v sl m)) (λr=>bs (r=(tN v.bf upto).1) (af b (rL m0 c0 {v with bf:=(tN v.bf upto).2} sl m))):=
 bC λw0 S R h=>by
  have h:=h.le (aJ _);refine ac (ah (x:=bN v.bf) h rfl (ae (λc=>?_) λc=>?_))
  ·have c:upto>bN v.bf:=bV c;have e:tN v.bf upto=(11,v.bf):=(by unfold tN;rw[aG c]);rw[e];exact au.aH rfl h.aI
  ·have c:¬upto>bN v.bf:=bY c;have e:tN v.bf upto=(0,(bW v.bf,bN v.bf,if upto>bU v.bf then upto else bU v.bf,bL v.bf)):=(by unfold tN;rw[ay c]);rw[e];refine ac (ah (x:=bU v.bf) h rfl (ac (aA h b (rL m0 c0 {v with bf:=(bW v.bf,bN v.bf,(if upto>bU v.bf then upto else bU v.bf),bL v.bf)} sl m) rfl rfl rfl λw h=>?_)));exact au.aH rfl h.aI
theorem FO(b)(m0 c0:Int)(v sl m)(flight:Int)(hs:pW v.sp)(hf:U flight):bu (UA (some ⟨b,9⟩) flight)
  (af b (rL m0 c0 v sl m)) (λ_=>af b (rL m0 c0 {v with sp:=ow v.sp flight} sl m)):=
 bC λw0 S R h=>by
  have h:=h.le (aJ _);refine ac (ah (x:=pD v.sp) h rfl (aK (fP (pD v.sp) flight hs.d hf) (h.le ((aJ _).trans (be _ _))) λw h=>?_));refine ac (aA h b (rL m0 c0 {v with sp:=ow v.sp flight} sl m) rfl rfl rfl λw h=>?_);exact h.br
theorem HW(b)(m0 c0:Int)(v sl m)(aj flight:Int):bu (UC (some ⟨b,9⟩) aj flight)
  (af b (rL m0 c0 v sl m)) (λr=>bs (r=(jI v.sp aj flight).1) (af b (rL m0 c0 {v with sp:=(jI v.sp aj flight).2} sl m))):=
 bC λw0 S R h=>by
  refine aD (h.le (aJ _)) λn1 w h=>?_;have h:au w0 S R w (af n1 [aB 0,aB 0,aB 0,aB 0,bc false]^af b (rL m0 c0 v sl m)^bg):=h.aI;refine aQ h (λ_=>af n1 [aB 0,aB 0,aB 0,aB 0,bc false]^af b (rL m0 c0 {v with sp:=gU v.sp aj flight} sl m)^bg) (λ_=>True) (λ_ w _ h=>?_) ?_
  ·refine aM h λw h=>ac (ac (ac (ac (ah (x:=pD (gU v.sp aj flight)) h rfl (ah (x:=pT (gU v.sp aj flight)) h rfl (ah (x:=pF (gU v.sp aj flight)) h rfl (ah (x:=pL (gU v.sp aj flight)) h rfl ?_)))))));obtain⟨X,hX⟩:∃X:Ks.T cw,X=(jI v.sp aj flight).1:=⟨_,rfl⟩;refine aA h n1 (Ks.mk cw X) rfl rfl ?_ λw h=>aw (b:=n1) (x:=X) h rfl ?_
   ·have e:(pL (gU v.sp aj flight)!=0)=decide (pL (gU v.sp aj flight)≠0):=by
     by_cases c:pL (gU v.sp aj flight)=0
     ·rw[c];rfl
     ·rw[mE c];simpa using c
    rw[e,hX];rfl
   ·have e2:(jI v.sp aj flight).2=gU v.sp aj flight:=rfl;rw[e2];exact au.aH hX h.aI
  ·refine ae (λc=>?_) λc=>?_
   ·have c:flight=0:=cC;refine ac (aA h b (rL m0 c0 {v with sp:=(pD v.sp,pT v.sp,aj,pL v.sp,pH v.sp,pG v.sp,oJ v.sp,nI v.sp,ob v.sp,m_ v.sp,nH v.sp)} sl m) rfl rfl rfl λw h=>?_);refine ac (aA h b (rL m0 c0 {v with sp:=gU v.sp aj flight} sl m) rfl rfl (by unfold gU;rw[aG c];rfl) λw h=>⟨trivial,h.aI⟩)
   ·have c:¬flight=0:=cC;refine⟨trivial,?_⟩;have e:gU v.sp aj flight=v.sp:=(by unfold gU;rw[ay c]);rw[e];exact h
theorem HZ(b)(m0 c0:Int)(v sl m)(n:Int)(hb:rR v.bf)(hl:bL v.bf=1073741824)(hw:bW v.bf≤1152921504606846976)(hn:n<9223372036854775808):bu (YS (some ⟨b,3⟩) n)
  (af b (rL m0 c0 v sl m)) (λr=>bs (r=(Bg v.bf n).1) (af b (rL m0 c0 {v with bf:=(Bg v.bf n).2} sl m))):=
 bC λw0 S R h=>by
  have h:=h.le (aJ _);have u1:=hb.u;have u2:=hb.un;have u3:=hb.nw;have u4:=hb.l;rw[hl]at u4;refine ae (λc=>?_) λc=>?_
  ·have c:n<1:=bV c;have e:Bg v.bf n=(1,v.bf):=(by unfold Bg;rw[aG c]);rw[e];exact au.aH rfl h.aI
  ·have c:¬n<1:=bY c;refine aM h λw h=>ac (ac (ac (ah (x:=(1073741824:Int)) h rfl (ah (x:=bW v.bf) h rfl (ah (x:=bU v.bf) h rfl ?_)))));have k:(if(if(1073741824:Int)<(1073741824:Int)then(1073741824:Int)else(1073741824:Int))>(0:Int)then(if(1073741824:Int)<(1073741824:Int)then(1073741824:Int)else(1073741824:Int))else(0:Int))=1073741824:=(by decide);rw[k,ja (n:=n),ja (n:=1073741824),ja (n:=bW v.bf-bU v.bf),ja (n:=1073741824-(bW v.bf-bU v.bf))];refine ae (λc2=>?_) λc2=>?_
   ·have c2:n>1073741824-(bW v.bf-bU v.bf):=bV c2;have e:Bg v.bf n=(5,v.bf):=(by unfold Bg;rw[ay c,hl,aG c2]);rw[e];exact au.aH rfl h.aI
   ·have c2:¬n>1073741824-(bW v.bf-bU v.bf):=bY c2;have e:Bg v.bf n=(0,(bW v.bf+n,bN v.bf,bU v.bf,bL v.bf)):=(by unfold Bg;rw[ay c,hl,ay c2]);rw[e];refine ac (ah (x:=bW v.bf) h rfl (ac (aA h b (rL m0 c0 {v with bf:=(bW v.bf+n,bN v.bf,bU v.bf,bL v.bf)} sl m) rfl rfl ?_ λw h=>?_)))
    ·rw[ja (n:=bW v.bf+n)];rfl
    ·exact au.aH rfl h.aI
end Lu

namespace WY
open bH bp eY fV eI Lu
theorem Lc(b)(m0 c0:Int)(v sl m)(most:Int)(hb:rR v.bf)(hm:most<9223372036854775808):bu (UE (some ⟨b,3⟩) most)
  (af b (rL m0 c0 v sl m)) (λr=>bs (r=(lx v.bf most).1) (af b (rL m0 c0 {v with bf:=(lx v.bf most).2} sl m))):=
 bC λw0 S R h=>by
  have u1:=hb.u;have u2:=hb.un;have u3:=hb.nw;have u4:=hb.l;have u5:=hb.w;have u6:=hb.ll;refine aD (h.le (aJ _)) λn1 w h=>?_;have h:au w0 S R w (af n1 [aB 0,aB 0]^af b (rL m0 c0 v sl m)^bg):=h.aI;refine aQ h (λ_=>af n1 [aB 0,aB 0]^af b (rL m0 c0 v sl m)^bg) (λ_=>most≥1∧bW v.bf-bN v.bf≠0) (λ_ w hc h=>?_) ?_
  ·have e:lx v.bf most=(((bN v.bf,bN v.bf+min (bW v.bf-bN v.bf) most),true),(bW v.bf,bN v.bf+min (bW v.bf-bN v.bf) most,bU v.bf,bL v.bf)):=(by unfold lx;rw[aG hc]);rw[e];obtain⟨X,hX⟩:∃X,X=bN v.bf+min (bW v.bf-bN v.bf) most:=⟨_,rfl⟩;rw[←hX];have e2:u64.wrap (bN v.bf+(if(u64.wrap (bW v.bf-bN v.bf))<(u64.wrap most)then(u64.wrap (bW v.bf-bN v.bf))else(u64.wrap most)))=X:=by
    rw[ja (n:=bW v.bf-bN v.bf),ja (n:=most),hX];by_cases c:bW v.bf-bN v.bf<most
    ·rw[aG c,ja];omega
    ·rw[ay c,ja];omega
   refine aM h λw h=>ac (ac (ac (ac (ah (x:=bN v.bf) h rfl (ah (x:=bN v.bf) h rfl (ah (x:=bW v.bf) h rfl (ah (x:=bN v.bf) h rfl ?_)))))));refine aD h λn18 w h=>aN h rfl (aN h rfl (aN h rfl (aN h rfl ?_)));rw[e2];refine aA h n18 (Ks.mk [.int .u64,.int .u64] (bN v.bf,X)) rfl rfl rfl λw h=>?_;refine ah (x:=X) h rfl (ac (aA h b (rL m0 c0 {v with bf:=(bW v.bf,X,bU v.bf,bL v.bf)} sl m) rfl rfl rfl λw h=>?_));refine aw (b:=n18) (x:=((bN v.bf,X):Ks.T [.int .u64,.int .u64])) h rfl (aA h n1 (Ks.mk [.int .u64,.int .u64] (bN v.bf,X)) rfl rfl rfl λw h=>?_);refine aw (b:=n1) (x:=((bN v.bf,X):Ks.T [.int .u64,.int .u64])) h rfl ?_;exact au.aH rfl h.aI
  ·refine aM h λw h=>ae (λc=>?_) λc=>?_
   ·have c:most<1:=bV c;have e:lx v.bf most=(((0,0),false),v.bf):=(by unfold lx;rw[ay (by omega)]);rw[e];refine az h (by rfl) λw h=>aw (b:=n1) (x:=((0,0):Ks.T [.int .u64,.int .u64])) h rfl ?_;exact au.aH rfl h.aI
   ·have c:¬most<1:=bY c;refine ac (ac (ah (x:=bN v.bf) h rfl (ah (x:=bW v.bf) h rfl (ae (λc2=>?_) λc2=>?_))))
    ·have c2:bN v.bf=bW v.bf:=gK;have e:lx v.bf most=(((0,0),false),v.bf):=(by unfold lx;rw[ay (by omega)]);rw[e];refine az h (by rfl) λw h=>aw (b:=n1) (x:=((0,0):Ks.T [.int .u64,.int .u64])) h rfl ?_;exact au.aH rfl h.aI
    ·have c2:¬bN v.bf=bW v.bf:=gK;exact⟨⟨by omega,by omega⟩,h⟩
end WY

namespace SH
open bH bp eY fV eI Lu
theorem HX(b)(m0 c0:Int)(v sl m)(aj bo flight:Int)(hs:pW v.sp)(hn:U aj):bu (P_ (some ⟨b,9⟩) aj bo flight)
  (af b (rL m0 c0 v sl m)) (λr=>bs (r=(gh v.sp aj bo flight).1) (af b (rL m0 c0 {v with sp:=(gh v.sp aj bo flight).2} sl m))):=
 bC λw0 S R h=>by
  refine aD (h.le (aJ _)) λn1 w h=>ac (ah (x:=pD v.sp) h rfl (aD h λn4 w h=>aA h n4 (Ks.mk aW (aj,pD v.sp,0,0,0,0,bo,flight,false)) rfl rfl rfl λw h=>?_));obtain⟨X,hX⟩:∃X:Ks.T aW,X=(gh v.sp aj bo flight).1:=⟨_,rfl⟩;have h:au w0 S R w (af n4 (Ks.mk aW (aj,pD v.sp,0,0,0,0,bo,flight,false))^af n1 [aB 0,aB 0,aB 0,aB 0,aB 0,aB 0,aB 0,aB 0,bc false]^af b (rL m0 c0 v sl m)^bg):=h.aI;refine aQ h (λ_=>af n4 (Ks.mk aW X)^af n1 [aB 0,aB 0,aB 0,aB 0,aB 0,aB 0,aB 0,aB 0,bc false]^af b (rL m0 c0 v sl m)^bg) (λ_=>True) (λ_ w _ h=>?_) ?_
  ·refine ac (aA h b (rL m0 c0 {v with sp:=(pD v.sp,pT v.sp,pF v.sp,pL v.sp,false,pG v.sp,oJ v.sp,nI v.sp,ob v.sp,m_ v.sp,nH v.sp)} sl m) rfl rfl rfl λw h=>?_);refine ac (aA h b (rL m0 c0 {v with sp:=(pD v.sp,pT v.sp,pF v.sp,pL v.sp,false,0,oJ v.sp,nI v.sp,ob v.sp,m_ v.sp,nH v.sp)} sl m) rfl rfl rfl λw h=>?_);refine ac (aA h b (rL m0 c0 {v with sp:=(pD v.sp,pT v.sp,pF v.sp,pL v.sp,false,0,0,nI v.sp,ob v.sp,m_ v.sp,nH v.sp)} sl m) rfl rfl rfl λw h=>?_);refine ac (aA h b (rL m0 c0 {v with sp:=(pD v.sp,pT v.sp,pF v.sp,pL v.sp,false,0,0,0,ob v.sp,m_ v.sp,nH v.sp)} sl m) rfl rfl rfl λw h=>?_);refine ac (aA h b (rL m0 c0 {v with sp:=(pD v.sp,pT v.sp,pF v.sp,pL v.sp,false,0,0,0,ob v.sp,0,nH v.sp)} sl m) rfl rfl rfl λw h=>?_);refine ac (aA h b (rL m0 c0 {v with sp:=(pD v.sp,pT v.sp,pF v.sp,pL v.sp,false,0,0,0,ob v.sp,0,0)} sl m) rfl rfl rfl λw h=>?_);refine ac (aA h b (rL m0 c0 {v with sp:=(gh v.sp aj bo flight).2} sl m) rfl rfl rfl λw h=>?_);refine aw (b:=n4) (x:=X) h rfl (aA h n1 (Ks.mk aW X) rfl rfl rfl λw h=>aw (b:=n1) (x:=X) h rfl ?_);exact au.aH hX h.aI
  ·refine ac (ah (x:=pH v.sp) h rfl (ae (λc=>?_) λc=>?_))
   ·have e:X=(aj,pD v.sp,oJ v.sp,jz (m_ v.sp) (dX aj (nI v.sp)),nH v.sp,pG v.sp,bo,flight,ob v.sp):=(by rw[hX];unfold gh;rw[aG c]);refine aM h λw h=>ac (ac (ac (ac (ah (x:=pG v.sp) h rfl (ah (x:=oJ v.sp) h rfl (ah (x:=ob v.sp) h rfl (ah (x:=nH v.sp) h rfl ?_)))))));refine aA h n4 (Ks.mk aW (aj,pD v.sp,0,0,0,pG v.sp,bo,flight,false)) rfl rfl rfl λw h=>aN h rfl (aN h rfl (aN h rfl ?_));refine aA h n4 (Ks.mk aW (aj,pD v.sp,oJ v.sp,0,0,pG v.sp,bo,flight,false)) rfl rfl rfl λw h=>aN h rfl (aN h rfl ?_);refine aA h n4 (Ks.mk aW (aj,pD v.sp,oJ v.sp,0,0,pG v.sp,bo,flight,ob v.sp)) rfl rfl rfl λw h=>aN h rfl ?_;refine aA h n4 (Ks.mk aW (aj,pD v.sp,oJ v.sp,0,nH v.sp,pG v.sp,bo,flight,ob v.sp)) rfl rfl rfl λw h=>?_;refine aM h λw h=>ac (ac (ah (x:=m_ v.sp) h rfl (ah (x:=nI v.sp) h rfl ?_)));refine aK (ke aj (nI v.sp) hn hs.pt) (h.le ((aJ _).trans (be _ _))) λw h=>?_;refine aN h rfl ?_;have el:(if dX aj (nI v.sp)>m_ v.sp then dX aj (nI v.sp)else m_ v.sp)=jz (m_ v.sp) (dX aj (nI v.sp)):=by
     have hu:=hs.si;unfold U at hu;unfold jz
     (repeat' split)<;>omega
    rw[el];refine aA h n4 (Ks.mk aW X) rfl rfl (by rw[e];rfl) λw h=>⟨trivial,h.aI⟩
   ·refine⟨trivial,?_⟩;have e:X=(aj,pD v.sp,0,0,0,0,bo,flight,false):=by rw[hX];unfold gh;rw[ay (by rw[c];simp)]
    rw[e];exact h
end SH

namespace Tz
open bH bp eY fV eI my Lu
theorem FN(b:Nat)(m0 c0:Int)(v:Sk)(sl:Sl)(m:Nat)(aj n:Int)(sn:Sn)(hs:pW v.sp)(hn:U aj)(hU:U n)(hsn:En sn):bu (T1 (some ⟨b,9⟩) aj n sn)
  (af b (rL m0 c0 v sl m)) (λ_=>af b (rL m0 c0 {v with sp:=ye v.sp aj n sn} sl m)):=
 bC λw0 S R h=>by
  obtain⟨D,hD⟩:∃D,D=bJ (pD v.sp) n:=⟨_,rfl⟩;obtain⟨G,hG⟩:∃G,G=bJ (pG v.sp) n:=⟨_,rfl⟩;obtain⟨L,hL⟩:∃L,L=if D>pL v.sp then 0 else pL v.sp:=⟨_,rfl⟩
  refine aD (h.le (aJ _)) λn1 w h=>ac (ah (x:=pD v.sp) h rfl (ar (fP (pD v.sp) n hs.d hU) (h.le ((aJ _).trans (be _ _))) λr w h=>?_));obtain⟨hr,h⟩:=h.aP;rw[hr,←hD];refine ac (aA h b (rL m0 c0 {v with sp:=(D,pT v.sp,pF v.sp,pL v.sp,pH v.sp,pG v.sp,oJ v.sp,nI v.sp,ob v.sp,m_ v.sp,nH v.sp)} sl m) rfl rfl rfl λw h=>?_);refine ac (aA h b (rL m0 c0 {v with sp:=(D,aj,pF v.sp,pL v.sp,pH v.sp,pG v.sp,oJ v.sp,nI v.sp,ob v.sp,m_ v.sp,nH v.sp)} sl m) rfl rfl rfl λw h=>?_);have h:au w0 S R w (af b (rL m0 c0 {v with sp:=(D,aj,pF v.sp,pL v.sp,pH v.sp,pG v.sp,oJ v.sp,nI v.sp,ob v.sp,m_ v.sp,nH v.sp)} sl m)^af n1 (Ks.mk cw sn)^bg):=h.aI;refine aQ h (λ_=>af b (rL m0 c0 {v with sp:=(D,aj,pF v.sp,L,pH v.sp,pG v.sp,oJ v.sp,nI v.sp,ob v.sp,m_ v.sp,nH v.sp)} sl m)^af n1 (Ks.mk cw sn)^bg) (λ_=>True) (λ_ w _ h=>?_) ?_;rotate_left
  ·refine aM h λw h=>ac (ac (ah (x:=D) h rfl (ah (x:=pL v.sp) h rfl (ae (λc=>?_) λc=>?_))))
   ·have c:D>pL v.sp:=bV c;refine ac (aA h b (rL m0 c0 {v with sp:=(D,aj,pF v.sp,L,pH v.sp,pG v.sp,oJ v.sp,nI v.sp,ob v.sp,m_ v.sp,nH v.sp)} sl m) rfl rfl (by rw[hL,aG c];rfl) λw h=>⟨trivial,h.aI⟩)
   ·have c:¬D>pL v.sp:=bY c;refine⟨trivial,?_⟩;rw[hL,ay c];exact h
  refine ac (ah (x:=pG v.sp) h rfl (ar (fP (pG v.sp) n hs.g hU) (h.le ((aJ _).trans (be _ _))) λr w h=>?_));obtain⟨hr,h⟩:=h.aP;rw[hr,←hG];refine ac (aA h b (rL m0 c0 {v with sp:=(D,aj,pF v.sp,L,pH v.sp,G,oJ v.sp,nI v.sp,ob v.sp,m_ v.sp,nH v.sp)} sl m) rfl rfl rfl λw h=>?_);have h:au w0 S R w (af b (rL m0 c0 {v with sp:=(D,aj,pF v.sp,L,pH v.sp,G,oJ v.sp,nI v.sp,ob v.sp,m_ v.sp,nH v.sp)} sl m)^af n1 (Ks.mk cw sn)^bg):=h.aI;obtain⟨Z,hZ⟩:∃Z:Sp,Z=if PU v.sp sn then(D,aj,sn.1,L,pH v.sp,G,sn.2.1,sn.2.2.1,sn.2.2.2.2,dX sn.1 sn.2.2.2.1,dX aj sn.1)else(D,aj,pF v.sp,L,pH v.sp,G,oJ v.sp,nI v.sp,ob v.sp,m_ v.sp,nH v.sp):=⟨_,rfl⟩
  refine aQ h (λ_=>af b (rL m0 c0 {v with sp:=Z} sl m)^af n1 (Ks.mk cw sn)^bg) (λ_=>True) (λ_ w _ h=>?_) ?_
  ·refine ac (aA h b (rL m0 c0 {v with sp:=ye v.sp aj n sn} sl m) rfl rfl ?_ λw h=>h.br);unfold ye;rw[←hD,←hG,←hL];by_cases c:PU v.sp sn=true
   ·rw[aG c];rw[aG c]at hZ;rw[hZ];rfl
   ·rw[ay c];rw[ay c]at hZ;rw[hZ];rfl
  ·refine aQ h (λ_=>af b (rL m0 c0 {v with sp:=(D,aj,pF v.sp,L,pH v.sp,G,oJ v.sp,nI v.sp,ob v.sp,m_ v.sp,nH v.sp)} sl m)^af n1 (Ks.mk cw sn)^bg) (λz:Bool=>z=PU v.sp sn) (λz w hz h=>?_) ?_;rotate_left
   ·refine aM h λw h=>ac (ah (x:=pH v.sp) h rfl (ae (λc=>?_) λc=>?_))
    ·refine⟨?_,h⟩;unfold PU;rw[c];rfl
    ·refine ah (x:=sn.2.1) h rfl (ac (ah (x:=oJ v.sp) h rfl ⟨?_,h⟩));unfold PU;rw[c];rfl
   rw[hz];refine ae (λc=>?_) λc=>?_
   ·rw[aG c]at hZ;refine aM h λw h=>ah (x:=sn.2.1) h rfl (ah (x:=sn.2.2.1) h rfl (ah (x:=sn.2.2.2.2) h rfl ?_));refine ac (aA h b (rL m0 c0 {v with sp:=(D,aj,pF v.sp,L,pH v.sp,G,sn.2.1,nI v.sp,ob v.sp,m_ v.sp,nH v.sp)} sl m) rfl rfl rfl λw h=>aN h rfl (aN h rfl ?_));refine ac (aA h b (rL m0 c0 {v with sp:=(D,aj,pF v.sp,L,pH v.sp,G,sn.2.1,sn.2.2.1,ob v.sp,m_ v.sp,nH v.sp)} sl m) rfl rfl rfl λw h=>aN h rfl ?_);refine ac (aA h b (rL m0 c0 {v with sp:=(D,aj,pF v.sp,L,pH v.sp,G,sn.2.1,sn.2.2.1,sn.2.2.2.2,m_ v.sp,nH v.sp)} sl m) rfl rfl rfl λw h=>?_);refine aM h λw h=>ah (x:=sn.1) h rfl (ah (x:=sn.2.2.2.1) h rfl (ah (x:=sn.1) h rfl ?_));refine aK (ke sn.1 sn.2.2.2.1 hsn.a hsn.d) (h.le ((aJ _).trans (be _ _))) λw h=>?_;refine aN h rfl (aK (ke aj sn.1 hn hsn.a) (h.le ((aJ _).trans (be _ _))) λw h=>?_);refine ac (aA h b (rL m0 c0 {v with sp:=(D,aj,pF v.sp,L,pH v.sp,G,sn.2.1,sn.2.2.1,sn.2.2.2.2,dX sn.1 sn.2.2.2.1,nH v.sp)} sl m) rfl rfl rfl λw h=>?_);refine ac (aA h b (rL m0 c0 {v with sp:=(D,aj,pF v.sp,L,pH v.sp,G,sn.2.1,sn.2.2.1,sn.2.2.2.2,dX sn.1 sn.2.2.2.1,dX aj sn.1)} sl m) rfl rfl rfl λw h=>?_);refine ah (x:=sn.1) h rfl (ac (aA h b (rL m0 c0 {v with sp:=Z} sl m) rfl rfl (by rw[hZ];rfl) λw h=>⟨trivial,h.aI⟩))
   ·rw[ay (by rw[c];simp)]at hZ;rw[hZ];exact⟨trivial,h⟩
end Tz

namespace PD
open bH bp fb sT yN eY fV eI Lu
abbrev eV(u:Sk)(e:Int):Sk:={u with bd:=(u.bd.1,e)}
def ko(b:Nat)(m0 c0:Int)(u:Sk)(mq:Nat)(v:List Pc×Int):SP:=ex λs=>af b (rL m0 c0 (eV u v.2) s mq)^aS s aF v.1
instance(b:Nat)(m0 c0:Int)(u:Sk)(mq:Nat)(v:List Pc×Int):nl (ko b m0 c0 u mq v):=by unfold ko;infer_instance
theorem _root_.Go.X.au.ko{m0 c0:Int}{v:List Pc×Int}(h:au w0 S0 R0 w F)(b)[t:Take (PD.ko b m0 c0 u mq v) F G]:∃s,au w0 S0 R0 w (af b (rL m0 c0 (eV u v.2) s mq)^aS s aF v.1^G):=by
 obtain⟨s,h⟩:=(h.le t.le).lV;exact⟨s,h.le (bZ _ _ _)⟩
theorem _root_.Go.X.au.iW(h:au w0 S0 R0 w F)(b)(m0 c0:Int)(u mq s l)(e:Int)[t:Take (af b (rL m0 c0 (eV u e) s mq)^aS s aF l) F G]:au w0 S0 R0 w (PD.ko b m0 c0 u mq (l,e)^G):=
 (h.le t.le).tQ (f:=λs=>af b (rL m0 c0 (eV u e) s mq)^aS s aF l) s
theorem qT(b)(m0 c0:Int)(u mq)(v:List Pc×Int)(hl:v.1.length≤4294967296):bu (JT (some ⟨b,7⟩)) (ko b m0 c0 u mq v) (λr=>bs (r=dz v.1) (ko b m0 c0 u mq v)):=
 bC λw0 S R h=>by
  obtain⟨s,h⟩:=(h.le (aJ _)).ko (m0:=m0) (c0:=c0) (u:=u) (mq:=mq) (v:=v) b;have h:au w0 S R w0 (aS s aF v.1^af b (rL m0 c0 (eV u v.2) s mq)):=h.aI;have hs:=(h.rd (s:=s)).2;refine cS (λ(_:Int×Int)=>aS s aF v.1^af b (rL m0 c0 (eV u v.2) s mq)) (λ(y:Int×Int)=>(0≤y.2∧y.2≤v.1.length)∧y.1=dz (v.1.take y.2.toNat)) (λ(y:Int×Int)=>v.1.length-y.2.toNat) h ⟨⟨by simp,by simp⟩,rfl⟩ ?_;rintro(⟨n,i⟩:Int×Int) w ⟨⟨h0,h1⟩,h2⟩ h;dsimp only at h0 h1 h2 h⊢;refine ac (ah h rfl ?_);refine ae (λc=>?_) λc=>?_
  ·have hi:i.toNat<v.1.length:=(by simp at c;omega);obtain⟨p,hp⟩:∃p,v.1[i.toNat]?=some p:=⟨_,bK hi⟩;have e:(i+1).toNat=i.toNat+1:=(by omega);have hfl:=oZ hp;rw[gi (n:=i+1)];refine aQ h (λ_=>aS s aF v.1^af b (rL m0 c0 (eV u v.2) s mq)) (λ(y:Bool)=>y=lG p) (λ(y:Bool) w hy h=>?_) ?_
   ·refine ae (λc=>?_) λc=>?_
    ·refine aM h λw h=>?_;refine ac (ac (ah h rfl (ah h rfl ?_)));refine bS h h0 hi (bS h h0 hi ?_);refine fj h s i.toNat 1 p hp rfl (by decide) rfl ?_;refine fj h s i.toNat 0 p hp rfl (by decide) rfl ?_;refine⟨⟨⟨⟨by show 0≤i+1;omega,by show i+1≤_;omega⟩,?_⟩,h⟩,by show _-(i+1).toNat<_;omega⟩;show u64.wrap (u64.wrap (n+xU p)-iX p)=dz (v.1.take (i+1).toNat);rw[e,hfl,uu,aG (by rw[←hy];exact c),←h2,Io]
    ·refine⟨⟨⟨⟨by show 0≤i+1;omega,by show i+1≤_;omega⟩,?_⟩,h⟩,by show _-(i+1).toNat<_;omega⟩;show n=dz (v.1.take (i+1).toNat);rw[e,hfl,uu,ay (by rw[←hy,c];simp),h2]
   ·refine ac (ah h rfl ?_);refine bS h h0 hi ?_;refine fj h s i.toNat 7 p hp rfl (by decide) rfl ?_;refine ae (λc=>?_) λc=>?_
    ·refine ac (ah h rfl ?_);refine bS h h0 hi ?_;refine fj h s i.toNat 8 p hp rfl (by decide) rfl ?_;exact⟨by have c:(!yC p)=true:=c;rw[lG,c];rfl,h⟩
    ·exact⟨by have c:(!yC p)=false:=c;rw[lG,c];rfl,h⟩
  ·have hi:i.toNat=v.1.length:=(by simp at c;omega);rw[hi,sE]at h2;exact au.aH h2 ((h.le (be _ _)).iW b m0 c0 u mq s v.1 v.2).aI
theorem Az(b)(m0 c0:Int)(u mq)(v:List Pc×Int)(hl:v.1.length≤4294967296):bu (Qz (some ⟨b,7⟩)) (ko b m0 c0 u mq v) (λr=>bs (r=fI jO v.1) (ko b m0 c0 u mq v)):=
 bC λw0 S R h=>by
  obtain⟨s,h⟩:=(h.le (aJ _)).ko (m0:=m0) (c0:=c0) (u:=u) (mq:=mq) (v:=v) b;have h:au w0 S R w0 (aS s aF v.1^af b (rL m0 c0 (eV u v.2) s mq)):=h.aI;have hs:=(h.rd (s:=s)).2;refine cS (λ(_:Int)=>aS s aF v.1^af b (rL m0 c0 (eV u v.2) s mq)) (λ(i:Int)=>(0≤i∧i≤v.1.length)∧∀j y,j<i.toNat→v.1[j]?=some y→jO y=false) (λ(i:Int)=>v.1.length-i.toNat) h ⟨⟨by simp,by simp⟩,λj y hj=>by simp at hj⟩ ?_;rintro(i:Int) w ⟨⟨h0,h1⟩,h2⟩ h;refine ac (ah h rfl ?_);refine ae (λc=>?_) λc=>?_
  ·have hi:i.toNat<v.1.length:=(by simp at c;omega);obtain⟨p,hp⟩:∃p,v.1[i.toNat]?=some p:=⟨_,bK hi⟩;have e:(i+1).toNat=i.toNat+1:=(by omega);refine ac (ah h rfl ?_);refine bS h h0 hi ?_;refine fj h s i.toNat 8 p hp rfl (by decide) rfl ?_;refine ae (λc=>?_) λc=>?_
   ·refine au.aH ?_ ((h.le (be _ _)).iW b m0 c0 u mq s v.1 v.2).aI;rw[ER hp c h2];exact(Ah h0).symm
   ·rw[gi (n:=i+1)];refine⟨⟨⟨⟨by show 0≤i+1;omega,by show i+1≤_;omega⟩,λj y hj hy=>?_⟩,h⟩,by show _-(i+1).toNat<_;omega⟩;have hj:j<(i+1).toNat:=hj;by_cases hji:j=i.toNat
    ·rw[hji,hp]at hy;cases hy;exact c
    ·exact h2 j y (by omega) hy
  ·have hi:i.toNat=v.1.length:=(by simp at c;omega);refine au.aH ?_ ((h.le (be _ _)).iW b m0 c0 u mq s v.1 v.2).aI;rw[vC];intro y hy;obtain⟨j,hj,rfl⟩:=Cd.1 hy;exact h2 j _ (by omega) (bK hj)
theorem HB(b)(m0 c0:Int)(u mq)(v:List Pc×Int)(hl:v.1.length≤4294967296):bu (Uz (some ⟨b,7⟩)) (ko b m0 c0 u mq v) (λr=>bs (r=bE v.1) (ko b m0 c0 u mq v)):=
 bC λw0 S R h=>by
  refine aD h λn1 w h=>?_;refine aK (Az b m0 c0 u mq v hl) h λw h=>?_;refine ae (λc=>?_) λc=>?_
  ·refine bh h rfl λw h=>?_;dsimp only[dE,over]at h;refine aw (x:=((0:Int),(0:Int))) h rfl ?_;exact au.aH (su cC).symm h.aI
  ·have hpos:0≤fI jO v.1:=(by simp at c;omega);obtain⟨p,hp,_,hlt,_⟩:=sY hpos;obtain⟨s,h⟩:=h.ko (m0:=m0) (c0:=c0) (u:=u) (mq:=mq) (v:=v) b;have h:au w0 S R w (aS s aF v.1^af b (rL m0 c0 (eV u v.2) s mq)^af n1 [aB 0,aB 0]):=h.aI;refine aM h λw h=>?_;refine ac (ac (ah h rfl (ah h rfl ?_)));refine bS h hpos hlt (bS h hpos hlt ?_);refine fj h s _ 0 p hp rfl (by decide) rfl ?_;refine fj h s _ 1 p hp rfl (by decide) rfl ?_;refine bh h rfl λw h=>?_;dsimp only[dE,over]at h;refine aw (x:=(p.1,p.2.1)) h rfl ?_;exact au.aH (ti hpos hp).symm (h.iW b m0 c0 u mq s v.1 v.2).aI
theorem HD(b)(m0 c0:Int)(u mq)(f t:Int)(s)(v:List Pc×Int):
  bu (UF (some ⟨b,7⟩) f t s) (ko b m0 c0 u mq v)
   (λr=>bs (r=(ej v f t s).1) (ko b m0 c0 u mq (ej v f t s).2)):=
 bC λw0 S R h=>by
  refine aD h λn1 w h=>?_;obtain⟨sl,h⟩:=h.ko (m0:=m0) (c0:=c0) (u:=u) (mq:=mq) (v:=v) b;have hlen:=(h.rd (s:=sl)).2;refine ac (ah h rfl ?_);refine ae (λhc=>?_) λhc=>?_
  ·have e1:ej v f t s=(1,v):=(by simp at hc;simp[ej,hc]);rw[e1];exact au.aH rfl (h.iW b m0 c0 u mq sl v.1 v.2).br
  ·refine ac (ah h rfl ?_);refine ae (λhc2=>?_) λhc2=>?_
   ·have e1:ej v f t s=(5,v):=by
     simp at hc hc2;rw[ej,ay (by omega),aG (by omega)]
    rw[e1];exact au.aH rfl (h.iW b m0 c0 u mq sl v.1 v.2).br
   ·have e1:ej v f t s=(0,(v.1++[uP f t s],t)):=by
     simp at hc hc2;rw[ej,ay (by omega),ay (by omega)]
    have hl4:v.1.length<4096:=(by simp at hc2;omega);rw[e1];refine aM h λw h=>?_;refine aw h rfl ?_;refine ac (ah h rfl ?_);refine⟨?_,?_⟩
    ·have h:=h.nil aF;refine dF (K:=aF) (s:=⟨none,0,0⟩) (x:=sl) h rfl (by simp;omega) λs9 w hl h=>?_;have h:=h.eN (s:=s9) (K:=aF) (pr _);refine aO h ?_;refine aD h λn10 w h=>?_;refine aN h rfl ?_;have h:=h.co n10 aF [uP f t s] rfl (by simp);refine dF (K:=aF) (s:=s9) (x:=⟨some ⟨n10,0⟩,1,1⟩) h rfl (by simp;omega) λs10 w hl h=>?_;refine ac (aA h b (rL m0 c0 (eV u v.2) s10 mq) rfl rfl rfl λw h=>?_);refine ac (aA h b (rL m0 c0 (eV u t) s10 mq) rfl rfl rfl λw h=>?_);exact au.aH rfl (h.iW b m0 c0 u mq s10 (v.1++[uP f t s]) t).br
    ·refine aD h λn10 w h=>?_;refine aN h rfl ?_;have h:=h.co n10 aF [uP f t s] rfl (by simp);have h:=h.nil aF;refine dF (K:=aF) (s:=⟨none,0,0⟩) (x:=sl) h rfl (by simp;omega) λs9 w hl h=>?_;have h:=h.eN (s:=s9) (K:=aF) (pr _);refine aO h ?_;refine dF (K:=aF) (s:=s9) (x:=⟨some ⟨n10,0⟩,1,1⟩) h rfl (by simp;omega) λs10 w hl h=>?_;refine ac (aA h b (rL m0 c0 (eV u v.2) s10 mq) rfl rfl rfl λw h=>?_);refine ac (aA h b (rL m0 c0 (eV u t) s10 mq) rfl rfl rfl λw h=>?_);exact au.aH rfl (h.iW b m0 c0 u mq s10 (v.1++[uP f t s]) t).br
theorem HC(b)(m0 c0:Int)(u mq)(v:List Pc×Int)(hl:v.1.length≤4294967295):bu (T2 (some ⟨b,7⟩)) (ko b m0 c0 u mq v) (λx=>bs (x=dz v.1) (ko b m0 c0 u mq (v.1.map fo,v.2))):=
 bC λw0 S R h=>by
  refine ar (qT b m0 c0 u mq v (by omega)) (h.le (aJ _)) λr1 w h=>?_;obtain⟨hr1,h⟩:=h.aP;obtain⟨s,h⟩:=h.ko (m0:=m0) (c0:=c0) (u:=u) (mq:=mq) (v:=v) b;have hs:=(h.rd (s:=s)).2;have h:=h.nil aF;have h:au w0 S R w (aS ⟨none,0,0⟩ aF []^aS s aF v.1^af b (rL m0 c0 (eV u v.2) s mq)):=h.aI;refine cS (λ(y:Sl×Int)=>aS y.1 aF ((v.1.take y.2.toNat).map fo)^aS s aF v.1^af b (rL m0 c0 (eV u v.2) s mq)) (λ(y:Sl×Int)=>0≤y.2∧y.2≤v.1.length) (λ(y:Sl×Int)=>v.1.length-y.2.toNat) h ⟨by simp,by simp⟩ ?_;rintro(⟨t,i⟩:Sl×Int) w ⟨h0,h1⟩ h;dsimp only at h0 h1 h⊢;refine ac (ah h rfl ?_);refine ae (λc=>?_) λc=>?_
  ·have hi:i.toNat<v.1.length:=(by simp at c;omega);obtain⟨p,hp⟩:∃p,v.1[i.toNat]?=some p:=⟨_,bK hi⟩;have e:(i+1).toNat=i.toNat+1:=(by omega);have ht:(v.1.take (i.toNat+1)).map fo=(v.1.take i.toNat).map fo++[fo p]:=(by rw[lC,hp];simp);have h':=h.le (fX _ _ _);refine ac (ah h rfl ?_);refine bS h' h0 hi ?_;refine dP h' s i.toNat hp rfl ?_;refine aD h λn w h=>?_;refine az h (by rfl) λw h=>?_;refine aQ h (λ_=>af n (Ks.mk aF (fo p))^aS t aF ((v.1.take i.toNat).map fo)^aS s aF v.1^af b (rL m0 c0 (eV u v.2) s mq)) (λ_=>True) (λy w _ h=>?_) ?_
   ·refine aw h rfl ?_;refine aD h λm w h=>?_;have h:=h.co m aF [fo p] rfl (by simp);refine dF (K:=aF) (s:=t) (x:=⟨some ⟨m,0⟩,1,1⟩) h rfl (by simp;omega) λs' w _ h=>?_;have h:=h.eN (s:=s') (K:=aF) (ys:=(v.1.take (i+1).toNat).map fo) (by rw[e,ht]);rw[gi (n:=i+1)];exact⟨⟨⟨by show 0≤i+1;omega,by show i+1≤_;omega⟩,h.aI⟩,by show _-(i+1).toNat<_;omega⟩
   ·refine ah h rfl ?_;have hlo:=Rl p;refine ae (λc=>?_) λc=>?_
    ·have c:jO p=true:=c;rw[aG c]at hlo;refine bh h rfl λw h=>?_;have h:au w0 S R w (af n (Ks.mk aF (iA p true))^_):=h;rw[hlo]at h;exact⟨trivial,h.aI⟩
    ·have c:jO p=false:=c;rw[ay (by rw[c];simp)]at hlo;refine ah h rfl ?_;refine bh h rfl λw h=>?_;have h:au w0 S R w (af n (Ks.mk aF (iA p (!yC p)))^_):=h;rw[hlo]at h;exact⟨trivial,h.aI⟩
  ·have hi:i.toNat=v.1.length:=(by simp at c;omega);rw[hi,sE]at h;refine ac (aA h b (rL m0 c0 (eV u v.2) t mq) rfl rfl rfl λw h=>?_);exact au.aH hr1 (h.iW b m0 c0 u mq t (v.1.map fo) v.2).aI
theorem FG(b)(m0 c0:Int)(u mq s)(v:List Pc×Int)(hl:v.1.length≤4294967296):bu (UD (some ⟨b,7⟩) s) (ko b m0 c0 u mq v) (λr=>bs (r=bE v.1) (ko b m0 c0 u mq (dN v.1 s,v.2))):=
 bC λw0 S R h=>by
  refine aD h λn1 w h=>?_;refine aD h λn2 w h=>?_;refine aK (Az b m0 c0 u mq v hl) h λw h=>?_;refine ae (λc=>?_) λc=>?_
  ·have hneg:fI jO v.1<0:=cC;have e:dN v.1 s=v.1:=(by unfold dN;split<;>simp[hneg]);refine bh h rfl λw h=>?_;dsimp only[dE,over]at h;refine aw (x:=((0:Int),(0:Int))) h rfl ?_;rw[e];exact au.aH (su hneg).symm h.aI
  ·have hpos:0≤fI jO v.1:=(by simp at c;omega);obtain⟨p,hp,_,hlt,_⟩:=sY hpos;have e:dN v.1 s=v.1.set (fI jO v.1).toNat (mI p s):=(by unfold dN;rw[hp];simp only;rw[ay (by omega)]);obtain⟨sl,h⟩:=h.ko (m0:=m0) (c0:=c0) (u:=u) (mq:=mq) (v:=v) b;refine ac (ah h rfl ?_);have h:=h.nil aF;refine dF (K:=aF) (s:=⟨none,0,0⟩) (x:=sl) h rfl (by simp;omega) λs7 w hl7 h=>?_;have h:=h.eN (s:=s7) (K:=aF) (pr _);refine aM h λw h=>?_;refine aw h rfl ?_;refine bS h hpos hlt ?_;refine mG h s7 _ 8 p (iA p false) hp rfl (by decide) (by simp) rfl λw h=>?_;have hp2:(v.1.set (fI jO v.1).toNat (iA p false))[(fI jO v.1).toNat]?=some (iA p false):=(by rw[sD hlt]);refine aO h ?_;refine bS h hpos (by rw[rp];exact hlt) ?_;refine mG h s7 _ 2 (iA p false) (mI p s) hp2 rfl (by simp[Ks.len]) (by simp[Ks.mk]) rfl λw h=>?_;rw[Hy]at h;have hp3:(v.1.set (fI jO v.1).toNat (mI p s))[(fI jO v.1).toNat]?=some (mI p s):=(by rw[sD hlt]);refine ac (aA h b (rL m0 c0 (eV u v.2) s7 mq) rfl rfl rfl λw h=>?_);refine aM h λw h=>?_;have h:=h.take (aS s7 aF (v.1.set (fI jO v.1).toNat (mI p s)));refine bS h hpos (by rw[rp];exact hlt) (bS h hpos (by rw[rp];exact hlt) ?_);refine fj h s7 _ 0 _ hp3 rfl (by decide) rfl ?_;refine fj h s7 _ 1 _ hp3 rfl (by decide) rfl ?_;refine bh h rfl λw h=>?_;dsimp only[dE,over]at h;refine aw (x:=(p.1,p.2.1)) h rfl ?_;rw[e];exact au.aH (ti hpos hp).symm (h.iW b m0 c0 u mq s7 (v.1.set (fI jO v.1).toNat (mI p s)) v.2).aI
def oV(b:Nat)(m0 c0:Int)(u:Sk)(mq:Nat)(v:List Pc×Int)(upto:Int)(xs:List (Int×Int))(r:Sl×Int×Int):SP:=
 cond (uN v upto xs) (bs (r.2.1=(cI (eR upto xs v.1)).2.1∧r.2.2=0) (aS r.1 aF (fQ upto xs v.1)^ko b m0 c0 u mq ((cI (eR upto xs v.1)).1,v.2)))
  (bs (r.1=⟨none,0,0⟩∧r.2.1=0∧r.2.2=11) (aS r.1 aF []^ko b m0 c0 u mq v))
theorem KT(b)(m0 c0:Int)(u mq)(v:List Pc×Int)(upto:Int)(a xs)(hl:v.1.length≤4294967295)(hx:xs.length≤4294967296):
  bu (L2 (some ⟨b,7⟩) upto a) (ko b m0 c0 u mq v^aV a KR xs) (oV b m0 c0 u mq v upto xs):=
 bC λw0 S R h=>by
  obtain⟨s,h⟩:=h.ko (m0:=m0) (c0:=c0) (u:=u) (mq:=mq) (v:=v) b;have h:au w0 S R w0 (aV a KR xs^af b (rL m0 c0 (eV u v.2) s mq)^aS s aF v.1):=h.aI;have ha:=(h.rd (s:=a)).2;have hs:=((h.take (aS s aF v.1)).rd (s:=s)).2;refine ac (ah h rfl ?_);refine cS (λ(_:Bool×Int)=>aV a KR xs^af b (rL m0 c0 (eV u v.2) s mq)^aS s aF v.1) (λ(y:Bool×Int)=>(0≤y.2∧y.2≤xs.length)∧y.1=(decide (upto>v.2)||(xs.take y.2.toNat).any (dM v.2))) (λ(y:Bool×Int)=>xs.length-y.2.toNat) h ⟨⟨by simp,by simp⟩,by simp⟩ ?_;rintro(⟨bad,i⟩:Bool×Int) w ⟨⟨h0,h1⟩,h2⟩ h;dsimp only at h0 h1 h2 h⊢;refine ae (λc=>?_) λc=>?_
  ·have hi:i.toNat<xs.length:=(by simp at c;omega);obtain⟨x,hx⟩:∃x,xs[i.toNat]?=some x:=⟨_,bK hi⟩;have e:(i+1).toNat=i.toNat+1:=(by omega);have hbt:=LQ (e:=v.2) hx;rw[gi (n:=i+1)];refine aM h λw h=>?_;have hgo:∀c:Bool,c=(bad||dM v.2 x)→(((0≤(c,i+1).2∧(c,i+1).2≤(xs.length:Int))∧(c,i+1).1=(decide (upto>v.2)||(xs.take (c,i+1).2.toNat).any (dM v.2)))∧au w0 S R w (aV a KR xs^af b (rL m0 c0 (eV u v.2) s mq)^aS s aF v.1))∧xs.length-(c,i+1).2.toNat<xs.length-(bad,i).2.toNat:=λc hc=>by
    dsimp only;rw[e,hbt,hc,h2,Bool.or_assoc];exact⟨⟨⟨⟨by omega,by omega⟩,rfl⟩,h⟩,by omega⟩
   refine ae (λc=>?_) λc=>?_
   ·exact hgo true (by have c:bad=true:=c;rw[c];rfl)
   ·have hb0:bad=false:=c;refine bS h h0 hi (ac ?_);refine fj h a i.toNat 1 x hx rfl (by decide) rfl ?_;refine ah h rfl ?_;refine ae (λc=>?_) λc=>?_
    ·exact hgo true (by have c:decide (x.2>v.2)=true:=c;rw[dM,c];simp)
    ·refine bS h h0 hi (bS h h0 hi ?_);refine fj h a i.toNat 0 x hx rfl (by decide) rfl ?_;refine fj h a i.toNat 1 x hx rfl (by decide) rfl ?_;exact hgo _ (by have c:decide (x.2>v.2)=false:=c;rw[hb0,dM,c];rfl)
  have hi:i.toNat=xs.length:=by simp at c;omega
  rw[hi,sE]at h2;have hbm:bad=!uN v upto xs:=by
   rw[h2,uN,Bool.not_and,xm];congr 1;by_cases hh:upto≤v.2
   ·rw[mE hh,nO (by omega)];rfl
   ·rw[nO hh,mE (by omega)];rfl
  refine ae (λc=>?_) λc=>?_
  ·have hm:uN v upto xs=false:=(by rw[show bad=true from c]at hbm;simpa using hbm.symm);have h:=(h.nil aF).iW b m0 c0 u mq s v.1 v.2;show au _ _ _ _ (oV b m0 c0 u mq v upto xs _);rw[oV,hm];exact au.aH ⟨rfl,rfl,rfl⟩ h.aI
  have hm:uN v upto xs=true:=by rw[show bad=false from c]at hbm;simpa using hbm.symm
  have h:=(h.nil aF).nil aF;have h:au w0 S R w (aS s aF v.1^af b (rL m0 c0 (eV u v.2) s mq)^aS ⟨none,0,0⟩ aF []^aS ⟨none,0,0⟩ aF []^aV a KR xs):=h.aI;refine cS (λ(y:Sl×Sl×Int)=>aS s aF v.1^af b (rL m0 c0 (eV u v.2) s mq)^aS y.1 aF (eR upto xs (v.1.take y.2.2.toNat))^aS y.2.1 aF (fQ upto xs (v.1.take y.2.2.toNat))^aV a KR xs)
   (λ(y:Sl×Sl×Int)=>0≤y.2.2∧y.2.2≤v.1.length) (λ(y:Sl×Sl×Int)=>v.1.length-y.2.2.toNat) h ⟨by simp,by simp⟩ ?_
  rintro(⟨rs,ts,i⟩:Sl×Sl×Int) w ⟨h0,h1⟩ h;dsimp only at h0 h1 h⊢;refine ac (ah h rfl ?_);refine ae (λc=>?_) λc=>?_
  ·have hi:i.toNat<v.1.length:=(by simp at c;omega);obtain⟨p,hp⟩:∃p,v.1[i.toNat]?=some p:=⟨_,bK hi⟩;have ht:=AY (upto:=upto) (xs:=xs) hp;have hrt:=AK (upto:=upto) (xs:=xs) hp;have hlt:=Cp upto xs v.1 i.toNat;have hlr:=qA upto xs v.1 i.toNat;have e:(i+1).toNat=i.toNat+1:=(by omega);rw[gi (n:=i+1)];refine ac (ah h rfl ?_);refine bS h h0 hi ?_;refine dP h s i.toNat hp rfl ?_;refine aD h λn w h=>?_;refine az h (by rfl) λw h=>?_;refine aQ h (λ_=>af n (Ks.mk aF p)^aS s aF v.1^af b (rL m0 c0 (eV u v.2) s mq)^aS rs aF (eR upto xs (v.1.take i.toNat))^aS ts aF (fQ upto xs (v.1.take i.toNat))^aV a KR xs)
    (λ(y:Bool×Bool)=>y.1=decide (p.2.1≤upto)∧y.2=(!yC p&&xs.any (tX p))) (λ(y:Bool×Bool) w hy h=>?_) ?_
   ·obtain⟨hy1,hy2⟩:=hy;refine aQ h (λ(z:Sl)=>af n (Ks.mk aF p)^aS s aF v.1^af b (rL m0 c0 (eV u v.2) s mq)^aS rs aF (eR upto xs (v.1.take i.toNat))^aS z aF (fQ upto xs (v.1.take (i.toNat+1)))^aV a KR xs) (λ_=>True) (λ(z:Sl) w _ h=>?_) ?_
    ·refine ae (λc=>?_) λc=>?_
     ·have hu:p.2.1≤upto:=(by rw[hy1]at c;simpa using c);rw[aG hu,rn]at hrt;refine⟨⟨⟨by show 0≤i+1;omega,by show i+1≤_;omega⟩,?_⟩,by show _-(i+1).toNat<_;omega⟩;show au _ _ _ _ (aS s aF v.1^af b (rL m0 c0 (eV u v.2) s mq)^aS rs aF (eR upto xs (v.1.take (i+1).toNat))^aS z aF (fQ upto xs (v.1.take (i+1).toNat))^aV a KR xs);rw[e,hrt];exact h.aI
     ·have hu:¬p.2.1≤upto:=(by rw[hy1]at c;simpa using c);rw[ay hu]at hrt;have hmk:pe upto xs p=if y.2 then ya p else p:=by rw[pe,sN,nO hu,Ao,hy2]
      refine aQ h (λ_=>af n (Ks.mk aF (pe upto xs p))^aS s aF v.1^af b (rL m0 c0 (eV u v.2) s mq)^aS rs aF (eR upto xs (v.1.take i.toNat))^aS z aF (fQ upto xs (v.1.take (i.toNat+1)))^aV a KR xs) (λ_=>True) (λ_ w _ h=>?_) ?_
      ·refine aw h rfl ?_;refine aD h λm w h=>?_;have h:=h.co m aF [pe upto xs p] rfl (by simp);refine dF (K:=aF) (s:=rs) (x:=⟨some ⟨m,0⟩,1,1⟩) h rfl (by simp;omega) λs' w _ h=>?_;refine⟨⟨⟨by show 0≤i+1;omega,by show i+1≤_;omega⟩,?_⟩,by show _-(i+1).toNat<_;omega⟩;show au _ _ _ _ (aS s aF v.1^af b (rL m0 c0 (eV u v.2) s mq)^aS s' aF (eR upto xs (v.1.take (i+1).toNat))^aS z aF (fQ upto xs (v.1.take (i+1).toNat))^aV a KR xs);rw[e,hrt];exact h.aI
      ·refine ae (λc2=>?_) λc2=>?_
       ·have c2:y.2=true:=c2;rw[c2,aG rfl]at hmk;refine bh h rfl λw h=>?_;refine bh h rfl λw h=>?_;have h:au w0 S R w (af n (Ks.mk aF (ya p))^_):=h;rw[←hmk]at h;exact⟨trivial,h.aI⟩
       ·have c2:y.2=false:=c2;rw[c2,ay (by simp)]at hmk;exact⟨trivial,by rw[hmk];exact h⟩
    ·refine aQ h (λ_=>af n (Ks.mk aF p)^aS s aF v.1^af b (rL m0 c0 (eV u v.2) s mq)^aS rs aF (eR upto xs (v.1.take i.toNat))^aS ts aF (fQ upto xs (v.1.take i.toNat))^aV a KR xs) (λ(z:Bool)=>z=sN upto xs p) (λ(z:Bool) w hz h=>?_) ?_
     ·refine ae (λc=>?_) λc=>?_
      ·have c:z=true:=c;rw[←hz,c,aG rfl]at ht;refine aw h rfl ?_;refine aD h λm w h=>?_;have h:=h.co m aF [p] rfl (by simp);refine dF (K:=aF) (s:=ts) (x:=⟨some ⟨m,0⟩,1,1⟩) h rfl (by simp;omega) λs' w _ h=>?_;rw[ht];exact⟨trivial,h.aI⟩
      ·have c:z=false:=c;rw[←hz,c]at ht;simp only[jo,jp,rn]at ht;rw[ht];exact⟨trivial,h⟩
     ·refine ae (λc=>?_) λc=>?_
      ·have c:y.1=true:=c;refine ah h rfl ?_;refine⟨?_,h⟩;show(!yC p||(!y.1&&y.2))=_;rw[c]at hy1⊢;rw[sN,←hy1];simp
      ·have c:y.1=false:=c;refine⟨?_,h⟩;show(!y.1&&y.2)=_;rw[c]at hy1⊢;rw[sN,←hy1,hy2];simp
   ·refine aM h λw h=>?_;refine ah h rfl (ah h rfl ?_);refine ae (λc=>?_) λc=>?_
    ·have c:(!yC p)=true:=c;refine aw h rfl ?_;refine bP (A:=bg) (Q:=aV a KR xs) (DK p a xs hx) (h.le (aJ _ |>.trans (be _ _))) λr w h=>?_;obtain⟨hr,h⟩:=h.aP;refine aN h rfl ?_;exact⟨⟨rfl,by show r=_;rw[hr,c];rfl⟩,h.aI⟩
    ·have c:(!yC p)=false:=c;exact⟨⟨rfl,by show false=_;rw[c];rfl⟩,h⟩
  have hi:i.toNat=v.1.length:=by simp at c;omega
  rw[hi,sE]at h;have hrl:(eR upto xs v.1).length≤v.1.length:=by
   have:=qA upto xs v.1 v.1.length;rwa[sE]at this
  generalize hL:eR upto xs v.1=L at h hrl;have hlen:=((h.take (aS rs aF L)).rd (s:=rs)).2;have hwn:i64.wrap (((rs.len:Nat):Int)-1)=(L.length:Int)-1:=by rw[hlen];exact gi
  rw[hwn];have e1:cI (L.drop ((L.length:Int)-1+1).toNat)=([],0,0):=by
   have e:((L.length:Int)-1+1).toNat=L.length:=(by omega);rw[e];simp[cI]
  have e0:L.take ((L.length:Int)-1+1).toNat++(cI (L.drop ((L.length:Int)-1+1).toNat)).1=L:=by rw[e1,rn,jZ (by omega)]
  have h:au w0 S R w (aS rs aF (L.take ((L.length:Int)-1+1).toNat++(cI (L.drop ((L.length:Int)-1+1).toNat)).1)^af b (rL m0 c0 (eV u v.2) s mq)^aS ts aF (fQ upto xs v.1)):=by rw[e0];exact h.aI
  refine cS (λ(y:Int×Int×Int)=>aS rs aF (L.take (y.2.2+1).toNat++(cI (L.drop (y.2.2+1).toNat)).1)^af b (rL m0 c0 (eV u v.2) s mq)^aS ts aF (fQ upto xs v.1))
   (λ(y:Int×Int×Int)=>(-1≤y.2.2∧y.2.2<L.length)∧y.1=(cI (L.drop (y.2.2+1).toNat)).2.1∧y.2.1=(cI (L.drop (y.2.2+1).toNat)).2.2) (λ(y:Int×Int×Int)=>(y.2.2+1).toNat) h ⟨⟨by show(-1:Int)≤_-1;omega,by show _-1<_;omega⟩,by rw[e1],by rw[e1]⟩ ?_
  rintro(⟨bo,above,i⟩:Int×Int×Int) w ⟨⟨h0,h1⟩,h2,h3⟩ h;dsimp only at h0 h1 h2 h3 h⊢;refine ae (λc=>?_) λc=>?_
  ·have c:0≤i:=cC;obtain⟨k,hk⟩:∃k:Nat,i=k:=⟨i.toNat,by omega⟩;have hk1:(i+1).toNat=k+1:=(by omega);have hk0:i.toNat=k:=(by omega);have hk2:(i-1+1).toNat=k:=(by omega);have hkl:k<L.length:=(by omega);rw[hk1]at h2 h3 h;obtain⟨p,hp⟩:∃p,L[k]?=some p:=⟨_,bK hkl⟩;have hd:=qI hp;have ht:L.take (k+1)=L.take k++[p]:=(by rw[lC,hp];rfl);have hlt:(L.take k).length=k:=(by rw[fO];omega);have hpass:cI (L.drop k)=(if w7 p above then iA p true::(cI (L.drop (k+1))).1 else p::(cI (L.drop (k+1))).1,if w7 p above then u64.wrap (bo+u64.wrap (p.2.1-p.1))else bo,yT p above):=(by rw[hd,cI,h2,h3]);obtain⟨ys,hys⟩:∃ys,ys=L.take (k+1)++(cI (L.drop (k+1))).1:=⟨_,rfl⟩;have hxk:ys[i.toNat]?=some p:=(by rw[hk0,hys,pn (by rw[fO];omega),po,aG (by omega),hp]);have hxl:i.toNat<ys.length:=(iy.1 hxk).1;rw[←hys]at h;have hw:i64.wrap (i-1)=i-1:=gi;rw[hw];have hgo:∀(w:World) (m n:Int) (zs:List Pc),zs=L.take k++(cI (L.drop k)).1→m=(cI (L.drop k)).2.1→n=(cI (L.drop k)).2.2→au w0 S R w (aS rs aF zs^af b (rL m0 c0 (eV u v.2) s mq)^aS ts aF (fQ upto xs v.1))→
     (((-1≤(m,n,i-1).2.2∧(m,n,i-1).2.2<L.length)∧(m,n,i-1).1=(cI (L.drop ((m,n,i-1).2.2+1).toNat)).2.1∧(m,n,i-1).2.1=(cI (L.drop ((m,n,i-1).2.2+1).toNat)).2.2)∧au w0 S R w (aS rs aF (L.take ((m,n,i-1).2.2+1).toNat++(cI (L.drop ((m,n,i-1).2.2+1).toNat)).1)^af b (rL m0 c0 (eV u v.2) s mq)^aS ts aF (fQ upto xs v.1)))∧((m,n,i-1).2.2+1).toNat<((bo,above,i).2.2+1).toNat:=by
    intro w m n zs hz hm hn h;dsimp only;rw[hk2,←hz];exact⟨⟨⟨⟨by omega,by omega⟩,hm,hn⟩,h⟩,by omega⟩
   refine bS h c hxl (ac ?_);refine fj h rs i.toNat 7 p hxk rfl (by decide) rfl ?_;refine ae (λc2=>?_) λc2=>?_
   ·have c2:yC p=true:=c2;have hh:w7 p above=false:=(by simp[w7,lG,c2]);have hab:yT p above=i64.wrap (above+1):=(by rw[yT,aG c2]);rw[hh]at hpass;simp only[jo,jp]at hpass;exact hgo w _ _ ys (by rw[hpass,hys,ht];simp) (by rw[hpass]) (by rw[hpass];exact hab.symm) h
   ·have c2:yC p=false:=c2;have hab:yT p above=above:=(by rw[yT,ay (by rw[c2];simp)]);have hh:w7 p above=(!jO p&&decide (above≥3)):=(by rw[w7,lG,c2,hab];rfl);refine ac ?_;refine fj h rs i.toNat 8 p hxk rfl (by decide) rfl ?_;refine ae (λc3=>?_) λc3=>?_
    ·have c3:(!jO p&&decide (above≥3))=true:=c3;rw[hh,c3]at hpass;simp only[iz]at hpass;refine ac (mG h rs i.toNat 8 p (iA p true) hxk rfl (by decide) (by simp) rfl λw h=>?_);have hset:ys.set i.toNat (iA p true)=L.take k++(cI (L.drop k)).1:=by
      rw[hpass,hys,hk0,ht,jF,Hd _ _ (by omega),hlt];simp
     have hx2:(ys.set i.toNat (iA p true))[i.toNat]?=some (iA p true):=(by rw[sD hxl]);refine aM h λw h=>?_;refine ac (ac ?_);refine fj h rs i.toNat 1 _ hx2 rfl (by decide) rfl ?_;refine fj h rs i.toNat 0 _ hx2 rfl (by decide) rfl ?_;refine hgo w _ _ _ hset ?_ (by rw[hpass,hab]) h;rw[hpass];exact Io bo p.2.1 p.1
    ·have c3:(!jO p&&decide (above≥3))=false:=c3;rw[hh,c3]at hpass;simp only[jo,jp]at hpass;exact hgo w _ _ ys (by rw[hpass,hys,ht];simp) (by rw[hpass]) (by rw[hpass,hab]) h
  ·have c:i=-1:=(by simp at c;omega);rw[c]at h2 h3 h;simp only[show((-1:Int)+1).toNat=0 from rfl,v8,DF,pr]at h2 h;refine ac (aA h b (rL m0 c0 (eV u v.2) rs mq) rfl rfl rfl λw h=>?_);have h:=h.iW b m0 c0 u mq rs (cI L).1 v.2;show au _ _ _ _ (oV b m0 c0 u mq v upto xs _);rw[oV,hm,hL];exact au.aH ⟨h2,rfl⟩ h.aI
end PD

namespace JE
open bH bp gV fb gM fK yb Eh eY fV eI lz my nz Lu SH PD
theorem QS(m:Int):(if(if(9000:Int)<m then(9000:Int)else m)>(100:Int)then(if(9000:Int)<m then(9000:Int)else m)else(100:Int))=bn m:=by unfold bn;(repeat' split)<;>omega
theorem QR(m:Int):bn (bn m)=bn m:=by
 have h:=rZ m;generalize bn m=c at*
 unfold bn;(repeat' split)<;>omega
theorem Yt(ba m:Int):wA ba (bn m)=wA ba m:=by unfold wA;rw[QR]
theorem O0(ba bt:Int)(hr:U ba):bu (Uy ba bt) bg (λr=>bs (r=wA ba bt) bg):=
 bC λw0 S R h=>by
  rw[QS];have hm:=rZ bt;have ht:=sQ ba bt hr.1;unfold U at hr;have em:u64.wrap (bn bt)=bn bt:=ja;rw[em];have hk:7≤65536/bn bt:=by rw[Dl (by omega)];omega
  have hk9:65536/bn bt≤65536:=Ak _ (by decide);have eq1:u64.wrap (ba.tdiv 1024)=ba/1024:=by rw[mD hr.1];exact ja
  have hq0:0≤ba/1024/bn bt:=Dy (by omega) (by omega);have hq1:ba/1024/bn bt≤ba/1024:=Ak _ (by omega);have eq2:u64.wrap ((ba/1024).tdiv (bn bt))=ba/1024/bn bt:=by rw[mD (by omega)];exact ja
  have eq3:u64.wrap (i64.wrap ((65536:Int).tdiv (bn bt)))=65536/bn bt:=by rw[mD (by decide),gi];exact ja
  rw[eq1,eq2,eq3];obtain⟨y0,hy0⟩:∃y0,y0=ba/1024/bn bt:=⟨_,rfl⟩;obtain⟨k,hkk⟩:∃k,k=65536/bn bt:=⟨_,rfl⟩;have et:wA ba bt=(if(if y0<2 then 2 else y0)>k then k else(if y0<2 then 2 else y0))*bn bt:=by unfold wA;rw[←hy0,←hkk]
  rw[←hy0,←hkk];rw[←hkk]at hk hk9;have e2:(if(if k<y0 then k else y0)>2 then(if k<y0 then k else y0)else 2)=(if(if y0<2 then 2 else y0)>k then k else(if y0<2 then 2 else y0)):=by (repeat' split)<;>omega
  rw[e2];rw[et]at ht;obtain⟨z,hz⟩:∃z,z=(if(if y0<2 then 2 else y0)>k then k else(if y0<2 then 2 else y0)):=⟨_,rfl⟩;have hz2:2≤z∧z≤k:=by rw[hz];(repeat' split)<;>omega
  rw[←hz]at ht⊢;rw[gi (n:=z),gi (n:=z*bn bt)];exact⟨by omega,by omega,au.aH (by rw[et,←hz]) h⟩
abbrev LF(m:Md)(u:Rm):Prop:=u.m=m∧Rel u∧u.g=fF m
theorem AO(b mb nw)(m0 c0:Int)(v sl u)(hu:u.m=v.md)(hr:U v.md.ba)(hm:v.bt=bn m0):bu (JU (some ⟨b,0⟩)) (af b (rL m0 c0 v sl mb)^af mb (ad.db nw u)^af nw (ad.eg u.m.w)) (λr=>bs (r=bB v) (af b (rL m0 c0 v sl mb)^af mb (ad.db nw u)^af nw (ad.eg u.m.w))):=
 bC λw0 S R h=>by
  have hr':U u.m.ba:=by rw[hu];exact hr
  refine aM h λw h=>ac (ac (ah (x:=some ⟨mb,0⟩) h rfl (ah (x:=m0) h rfl (ac (ah (x:=u.m.ba) h rfl ?_)))));refine ar (O0 u.m.ba m0 hr') (h.le ((aJ _).trans (be _ _))) λr w h=>?_;obtain⟨hr1,h⟩:=h.aP;exact au.aH (by rw[hr1,hu];unfold bB;rw[hm,Yt]) h.drop
theorem Oy{b mb nw:Nat}{m0 c0:Int}{v:Sk}{u:Rm}{w0 w:World}{S0 R0:Nat→Prop}{G:SP}{K:WP}(hv:pV v)(hu:LF v.md u)(hm:v.bt=bn m0){aj bo:Int}(hn:U aj)(hlo:U bo)
  (h:au w0 S0 R0 w (ko b m0 c0 v mb v.bd^(af mb (ad.db nw u)^af nw (ad.eg u.m.w))^G))
  (k:∀w' u',LF (jX v aj bo).md u'→au w0 S0 R0 w' (ko b m0 c0 (jX v aj bo) mb v.bd^(af mb (ad.db nw u')^af nw (ad.eg u'.m.w))^G)→K w'):
  aC (some ⟨b,0⟩) (λq15=>aC (some ⟨b,0⟩) λq16=>aC (some ⟨b,0⟩) λq17=>ld [.ptr] ⟨q15.b,q15.o+20⟩ λ(x18:bO)=>
   call Tryz.prog oh [.lf (.ptr (some ⟨q17.b,q17.o+7⟩))] [.lf (.int .u64)] λ(r19:Int)=>
   ct ⟨q15.b,q15.o+20⟩ (Ks.mk [.ptr] x18)<|
   call Tryz.prog og [.lf (.ptr (some ⟨q16.b,q16.o+9⟩)),.lf (.int .u64 aj),.lf (.int .u64 bo),.lf (.int .u64 r19)] [.agg aW] λ(r20:jT)=>
   ct ⟨q15.b,q15.o+20⟩ (Ks.mk [.ptr] x18)<|
   call Tryz.prog qD [.lf (.ptr (some ⟨b,0⟩))] [.lf (.int .i64)] λ(r21:Int)=>
   ct ⟨q15.b,q15.o+20⟩ (Ks.mk [.ptr] x18)<|
   call Tryz.prog oe [.lf (.ptr x18),.agg (Ks.mk aW r20),.lf (.int .u64 (u64.wrap r21))] [.agg eH] λ_=>K) w:=by
 obtain⟨hu1,hu2,hu3⟩:=hu;have hbl:v.bd.1.length≤4294967296:=by have:=hv.bl;omega
 have hts:=sQ v.md.ba v.bt hv.md.ba.1;have ew:u64.wrap (bB v)=bB v:=wu (by unfold bB;omega) (by unfold bB;omega);have hft:U (cZ v):=hv.fl;obtain⟨v1,hv1⟩:∃v1:Sk,v1={v with sp:=(gh v.sp aj bo (cZ v)).2}:=⟨_,rfl⟩;have et:bB v1=bB v:=by rw[hv1];rfl
 obtain⟨s,h⟩:=h.ko (m0:=m0) (c0:=c0) (u:=v) (mq:=mb) (v:=v.bd) b;refine ac (ac (ac (ah (x:=some ⟨mb,0⟩) h rfl ?_)));have h:au w0 S0 R0 w (ko b m0 c0 v mb v.bd^(af mb (ad.db nw u)^af nw (ad.eg u.m.w))^G):=(h.iW b m0 c0 v mb s v.bd.1 v.bd.2).aI;refine aK (qT b m0 c0 v mb v.bd hbl) h λw h=>?_;obtain⟨s,h⟩:=h.ko (m0:=m0) (c0:=c0) (u:=v) (mq:=mb) (v:=v.bd) b;have h:au w0 S0 R0 w (af b (rL m0 c0 v s mb)^aS s aF v.bd.1^(af mb (ad.db nw u)^af nw (ad.eg u.m.w))^G):=h;refine aN h rfl (aK (HX b m0 c0 v s mb aj bo (cZ v) hv.sp hn) h λw h=>?_);have h:au w0 S0 R0 w (af b (rL m0 c0 v1 s mb)^aS s aF v.bd.1^(af mb (ad.db nw u)^af nw (ad.eg u.m.w))^G):=by rw[hv1];exact h
 refine aN h rfl (ar (AO b mb nw m0 c0 v1 s u (by rw[hv1];exact hu1) (by rw[hv1];exact hv.md.ba) (by rw[hv1];exact hm)) h λr w h=>?_);obtain⟨hr,h⟩:=h.aP;rw[hr,et,ew];refine aN h rfl (ar (K4 mb nw u (by rw[hu1];exact hv.md) hu2 (gh v.sp aj bo (cZ v)).1 (yI hv.sp hn hlo hv.fl) (bB v) ⟨by unfold bB;omega,by unfold bB;omega⟩) h λr w h=>?_);obtain⟨u',⟨g1,g2,g3,_⟩,h⟩:=h.uQ;have h:au w0 S0 R0 w (af b (rL m0 c0 {v with sp:=(gh v.sp aj bo (cZ v)).2} s mb)^aS s aF v.bd.1^(af mb (ad.db nw u')^af nw (ad.eg u'.m.w))^G):=by rw[←hv1];exact h.aI
 have h:au w0 S0 R0 w (af b (rL m0 c0 (eV (jX v aj bo) v.bd.2) s mb)^aS s aF v.bd.1^(af mb (ad.db nw u')^af nw (ad.eg u'.m.w))^G):=h;refine k w u' ⟨by rw[g1,hu1];rfl,g2,by rw[g3,g1,hu1];rfl⟩ (h.iW b m0 c0 (jX v aj bo) mb s v.bd.1 v.bd.2).aI
def mr(b:Nat)(m0 c0:Int)(v:Sk):SP:=xQ (λx:Nat×Nat×Rm=>LF v.md x.2.2) (λx=>(λmb nw u=>ko b m0 c0 v mb v.bd^(af mb (ad.db nw u)^af nw (ad.eg u.m.w))) x.1 x.2.1 x.2.2)
instance(b:Nat)(m0 c0:Int)(v:Sk):nl (mr b m0 c0 v):=by unfold mr;infer_instance
section
variable {w0 w:World} {S0 R0:Nat→Prop} {F G:SP}
theorem _root_.Go.X.au.mr(h:au w0 S0 R0 w F)(b){m0 c0:Int}[tk:Take (JE.mr b m0 c0 v) F G]:∃(mb nw:Nat) (u:Rm),LF v.md u∧au w0 S0 R0 w (ko b m0 c0 v mb v.bd^(af mb (ad.db nw u)^af nw (ad.eg u.m.w))^G):=by
 obtain⟨⟨mb,nw,u⟩,hu,h⟩:=(h.le tk.le).uQ;exact⟨mb,nw,u,hu,h.aI⟩
theorem _root_.Go.X.au.xS(h:au w0 S0 R0 w F)(b)(m0 c0:Int)(v mb nw u)(hu:LF v.md u)[tk:Take (ko b m0 c0 v mb v.bd^(af mb (ad.db nw u)^af nw (ad.eg u.m.w))) F G]:au w0 S0 R0 w (JE.mr b m0 c0 v^G):=
 au.rA (f:=λx:Nat×Nat×Rm=>(λmb nw u=>ko b m0 c0 v mb v.bd^(af mb (ad.db nw u)^af nw (ad.eg u.m.w))) x.1 x.2.1 x.2.2) h (mb,nw,u) hu
end
theorem Ci(b)(m0 c0:Int)(v)(hv:pV v)(hm:v.bt=bn m0)(aj:Int)(hn:U aj):bu (Z2 (some ⟨b,0⟩) aj) (mr b m0 c0 v) (λ_=>mr b m0 c0 (io v aj)):=
 bC λw0 S R h=>by
  have hbl:v.bd.1.length≤4294967295:=by have:=hv.bl;omega
  obtain⟨mb,nw,u,hu,h⟩:=(h.le (aJ _)).mr b (m0:=m0) (c0:=c0) (v:=v);refine ac (aK (HC b m0 c0 v mb v.bd hbl) h λw h=>?_);refine aM h λw h=>?_;refine Oy (v:={v with bd:=(v.bd.1.map fo,v.bd.2)}) (b:=b) (mb:=mb) (nw:=nw) (G:=bg) (pV.yh hv) hu hm hn hv.fl h λw u' hu' h=>?_;have h:au w0 S R w (ko b m0 c0 (io v aj) mb (io v aj).bd^(af mb (ad.db nw u')^af nw (ad.eg u'.m.w))^bg):=h;exact(h.xS b m0 c0 (io v aj) mb nw u' hu').br
end JE

namespace Zf
open bH bp gV fb gM fK yb Eh eY fV eI lz my nz nA Lu SH Tz PD JE
abbrev KR:Ks:=[.int .u64,.int .u64]
theorem JK{aj:Int}{s:Sp}{l:List Pc}{i:Nat}{q:Pc}(h:l[i]?=some q):rz aj s (l.take (i+1))=sM aj (rz aj s (l.take i)) q:=by
 unfold rz;rw[lC,h,List.foldl_append]
 rfl
theorem FH(b)(m0 c0:Int)(v)(hv:pV v)(hp:Cz v.bd.1)(hm:v.bt=bn m0)(aj upto:Int)(hn:U aj)(a xs)(hx:xs.length≤4294967296):bu (Z1 (some ⟨b,0⟩) aj upto a) (mr b m0 c0 v^aV a KR xs) (λr=>bs (r=(om v aj upto xs).1) (mr b m0 c0 (om v aj upto xs).2)):=
 bC λw0 S R h=>by
  have hbl:v.bd.1.length≤4294967295:=by have:=hv.bl;omega
  obtain⟨mb,nw,u,hu,h⟩:=h.mr b (m0:=m0) (c0:=c0) (v:=v);have t:=KT b m0 c0 v mb v.bd upto a xs hbl hx;cases hc:uN v.bd upto xs with
  |false=>
   have e:om v aj upto xs=(11,v):=(by unfold om;rw[ay (by rw[hc];intro c;cases c)]);rw[e];have t:bu (L2 (some ⟨b,7⟩) upto a) (ko b m0 c0 v mb v.bd^aV a KR xs) (λr=>bs (r.1=⟨none,0,0⟩∧r.2.1=0∧r.2.2=11) (aS r.1 aF []^ko b m0 c0 v mb v.bd)):=by
    unfold oV at t;rw[hc]at t;exact t
   refine ac (bP (Q:=aV a KR xs) t h λr w h=>?_);obtain⟨r1,r2,r3⟩:=r;obtain⟨⟨_,_,h3⟩,h⟩:=h.aP;dsimp only at h3 h⊢;refine ae (λ_=>?_) λc=>(by rw[h3]at c;cases c);rw[h3];have h:au w0 S R w (ko b m0 c0 v mb v.bd^(af mb (ad.db nw u)^af nw (ad.eg u.m.w))^bg):=h.aI;exact au.aH rfl (h.xS b m0 c0 v mb nw u hu).br
  |true=>
   have e:om v aj upto xs=(0,jX (kZ v aj upto xs) aj (cI (eR upto xs v.bd.1)).2.1):=(by unfold om;rw[aG hc]);rw[e];have t:bu (L2 (some ⟨b,7⟩) upto a) (ko b m0 c0 v mb v.bd^aV a KR xs) (λr=>bs (r.2.1=(cI (eR upto xs v.bd.1)).2.1∧r.2.2=0) (aS r.1 aF (fQ upto xs v.bd.1)^ko b m0 c0 v mb ((cI (eR upto xs v.bd.1)).1,v.bd.2))):=by
    unfold oV at t;rw[hc]at t;exact t
   refine ac (bP (Q:=aV a KR xs) t h λr w h=>?_);obtain⟨r1,r2,r3⟩:=r;obtain⟨⟨h2,h3⟩,h⟩:=h.aP;dsimp only at h2 h3 h⊢;refine ae (λc=>(by rw[h3]at c;cases c)) λ_=>?_;obtain⟨L,hL⟩:∃L,L=fQ upto xs v.bd.1:=⟨_,rfl⟩;obtain⟨P,hP⟩:∃P,P=(cI (eR upto xs v.bd.1)).1:=⟨_,rfl⟩;rw[←hL,←hP]at h;have hLen:L.length≤4294967295:=by
    rw[hL];exact kW (Ac _ _) hbl
   have h:au w0 S R w (ko b m0 c0 v mb (P,v.bd.2)^aS r1 aF L^(af mb (ad.db nw u)^af nw (ad.eg u.m.w))^bg):=h.aI;obtain⟨s,h⟩:=h.ko (m0:=m0) (c0:=c0) (u:=v) (mq:=mb) (v:=(P,v.bd.2)) b;have h:au w0 S R w (af b (rL m0 c0 v s mb)^aS s aF P^aS r1 aF L^(af mb (ad.db nw u)^af nw (ad.eg u.m.w))^bg):=h;refine ac (ar (HE b m0 c0 v s mb upto) h λr w h=>?_);obtain⟨_,h⟩:=h.aP;have hr1:=(au.rd (s:=r1) (K:=aF) (xs:=L) h).2;have hLs:Cz L:=(by rw[hL];exact qY hp);have h:au w0 S R w (af b (rL m0 c0 {v with bf:=(tN v.bf upto).2,sp:=rz aj v.sp (L.take (0:Int).toNat)} s mb)^aS s aF P^aS r1 aF L^(af mb (ad.db nw u)^af nw (ad.eg u.m.w))^bg):=h;refine cS (λi:Int=>af b (rL m0 c0 {v with bf:=(tN v.bf upto).2,sp:=rz aj v.sp (L.take i.toNat)} s mb)^aS s aF P^aS r1 aF L^(af mb (ad.db nw u)^af nw (ad.eg u.m.w))^bg) (λi:Int=>0≤i∧i≤L.length) (λi:Int=>L.length-i.toNat) h ⟨gQ 0,by omega⟩ ?_;rintro(i:Int) w ⟨i0,i1⟩ h;refine ae (λc=>?_) λc=>?_
   ·have c:i<((r1.len:Nat):Int):=bV c;have hi:i.toNat<L.length:=(by omega);obtain⟨q,hq⟩:∃q,L[i.toNat]?=some q:=⟨_,bK hi⟩;have hqm:=gI hq;have hsp:pW (rz aj v.sp (L.take i.toNat)):=CC hn _ _ hv.sp λz hz=>hLs z (Af hz);have ei:(i+1).toNat=i.toNat+1:=(by omega);refine aM h λw h=>ac ?_;have hA:=h.take (aS r1 aF L);refine bS (s:=r1) hA i0 hi (bS (s:=r1) hA i0 hi (bS (s:=r1) hA i0 hi ?_));refine fj hA r1 i.toNat 1 q hq rfl (by decide) (x:=q.2.1) rfl (fj hA r1 i.toNat 0 q hq rfl (by decide) (x:=q.1) rfl (fj hA r1 i.toNat 2 q hq rfl (by decide) (x:=Tf q) rfl ?_));refine ar (FN b m0 c0 {v with bf:=(tN v.bf upto).2,sp:=rz aj v.sp (L.take i.toNat)} s mb aj (u64.wrap (q.2.1-q.1)) (Tf q) hsp hn (ur _) (hLs q hqm)) h λ_ w h=>?_;rw[gi (n:=i+1)];refine⟨⟨⟨by show(0:Int)≤i+1;omega,by show i+1≤_;omega⟩,?_⟩,by show L.length-(i+1).toNat<_;omega⟩;show au w0 S R w (af b (rL m0 c0 {v with bf:=(tN v.bf upto).2,sp:=rz aj v.sp (L.take (i+1).toNat)} s mb)^_);rw[ei,JK hq];exact h
   ·have c:¬i<((r1.len:Nat):Int):=bY c;have ei:L.take i.toNat=L:=jZ (by omega);rw[ei]at h;have eT:kZ v aj upto xs={v with bd:=(P,v.bd.2),bf:=(tN v.bf upto).2,sp:=rz aj v.sp L}:=(by unfold kZ;rw[hL,hP]);have hm2:(kZ v aj upto xs).bt=bn m0:=hm;have hu2:LF (kZ v aj upto xs).md u:=hu;have h:au w0 S R w (ko b m0 c0 (kZ v aj upto xs) mb (kZ v aj upto xs).bd^(af mb (ad.db nw u)^af nw (ad.eg u.m.w))^aS r1 aF L):=by
     rw[eT];have h:au w0 S R w (af b (rL m0 c0 (eV {v with bd:=(P,v.bd.2),bf:=(tN v.bf upto).2,sp:=rz aj v.sp L} v.bd.2) s mb)^aS s aF P^aS r1 aF L^(af mb (ad.db nw u)^af nw (ad.eg u.m.w))^bg):=h;exact(h.iW b m0 c0 {v with bd:=(P,v.bd.2),bf:=(tN v.bf upto).2,sp:=rz aj v.sp L} mb s P v.bd.2).aI
    rw[h2];refine aM h λw h=>?_;refine Oy (v:=kZ v aj upto xs) (b:=b) (mb:=mb) (nw:=nw) (G:=aS r1 aF L) (AZ hv hp hn upto xs) hu2 hm2 hn (zW _) h λw u' hu' h=>?_;have h:au w0 S R w (ko b m0 c0 (jX (kZ v aj upto xs) aj (cI (eR upto xs v.bd.1)).2.1) mb (jX (kZ v aj upto xs) aj (cI (eR upto xs v.bd.1)).2.1).bd^(af mb (ad.db nw u')^af nw (ad.eg u'.m.w))^aS r1 aF L):=h;exact au.aH rfl (h.xS b m0 c0 (jX (kZ v aj upto xs) aj (cI (eR upto xs v.bd.1)).2.1) mb nw u' hu').br
end Zf

namespace Xq
open bH bp gV fb gM fK yb Eh eY fV eI lz ny my nz nA Lu WY SH Tz PD JE
abbrev KR:Ks:=[.int .u64,.int .u64]
def Ow(b n1 n4:Nat)(o:Int)(ag:Bool)(R:Rs.T [.agg KS,.lf (.int .i64)]→WP):WP:=
 ld [.int .u64] ⟨n4,1⟩ λ(x56:Int)=>
 ld [.int .u64] ⟨n4,0⟩ λ(x57:Int)=>
 bR<|
 aC (some ⟨b,0⟩) λq58=>
 ld [.int .u64] ⟨n4,0⟩ λ(x59:Int)=>
 aC (some ⟨b,0⟩) λq60=>
 ld [.int .i64] q58 λ(x61:Int)=>
 ld [.int .u64] ⟨q60.b,q60.o+22⟩ λ(x62:Int)=>
 new [aE (0:Int),aB (0:Int),aE (0:Int),aB (0:Int),bc false] λn63=>
 ct ⟨q60.b,q60.o+22⟩ (Ks.mk [.int .u64] x62)<|
 ct q58 (Ks.mk [.int .i64] x61)<|
 ct ⟨n4,0⟩ (Ks.mk [.int .u64] x59)<|
 st ⟨n63,0⟩ [aE x61,aB x59,aE (i64.wrap (u64.wrap (x56-x57))),aB (if x62>o then x62 else o),bc ag]<|
 bR<|
 ld [.int .u64] ⟨n63,3⟩ λ(x64:Int)=>
 aC (some ⟨b,0⟩) λq65=>
 ld [.ptr] ⟨q65.b,q65.o+20⟩ λ(x66:bO)=>
 aC x66 λq67=>
 ld [.int .u64] ⟨q67.b,q67.o+24⟩ λ(x68:Int)=>
 call Tryz.prog tL [.lf (.int .i64 (i64.wrap (u64.wrap (x56-x57)))),.lf (.int .u64 x68)] [.lf (.int .u64)] λ(r69:Int)=>
 ct ⟨n63,3⟩ (Ks.mk [.int .u64] x64)<|
 call Tryz.prog oM [.lf (.int .u64 x64),.lf (.int .u64 r69)] [.lf (.int .u64)] λ(r70:Int)=>
 aC (some ⟨b,0⟩) λq71=>
 st ⟨q71.b,q71.o+22⟩ [aB r70]<|
 aC (some ⟨b,0⟩) λq72=>
 ld [.int .u64] ⟨q72.b,q72.o+21⟩ λ(x73:Int)=>
 call Tryz.prog oM [.lf (.int .u64 x73),.lf (.int .u64 (u64.wrap (i64.wrap (u64.wrap (x56-x57)))))] [.lf (.int .u64)] λ(r74:Int)=>
 aC (some ⟨b,0⟩) λq75=>
 st ⟨q75.b,q75.o+21⟩ [aB r74]<|
 ld KS ⟨n63,0⟩ λ(x76:Ks.T KS)=>
 st ⟨n1,0⟩ (Ks.mk KS x76)<|
 ld KS ⟨n1,0⟩ λ(x77:Ks.T KS)=>
 R (x77,(0:Int))
theorem WM{w0 w:World}{S0 R0:Nat→Prop}{G:SP}{R:Rs.T [.agg KS,.lf (.int .i64)]→WP}{b n1 n4 mb nw:Nat}{m0 c0:Int}{v:Sk}{u:Rm}{aj x y:Int}{ag:Bool}(hu:u.m=v.md)(hm:gr v.md)(hn:U aj)(hnx:U v.nx)(hab:0≤y-x∧y-x≤65536)(ho:0≤v.out∧v.out+65536<18446744073709551616)
  (h:au w0 S0 R0 w (af n1 zS^af n4 [aB x,aB y]^ko b m0 c0 v mb v.bd^(af mb (ad.db nw u)^af nw (ad.eg u.m.w))^G))
  (k:∀w',au w0 S0 R0 w' (ko b m0 c0 (lq v (x,y) ag aj).2 mb v.bd^(af mb (ad.db nw u)^af nw (ad.eg u.m.w))^G)→R ((lq v (x,y) ag aj).1,0) w'):Ow b n1 n4 aj ag R w:=by
 unfold Ow;have e1:u64.wrap (y-x)=y-x:=ja;have e2:i64.wrap (y-x)=y-x:=gi;have hst:U (if v.nx>aj then v.nx else aj):=by split;exact hnx;exact hn
 have hD:U (dY (y-x) v.md.ba):=oU (by omega) hm.ba;obtain⟨s,h⟩:=h.ko (m0:=m0) (c0:=c0) (u:=v) (mq:=mb) (v:=v.bd) b;have h:au w0 S0 R0 w (af b (rL m0 c0 v s mb)^aS s aF v.bd.1^af n1 zS^af n4 [aB x,aB y]^(af mb (ad.db nw u)^af nw (ad.eg u.m.w))^G):=h;refine ah (x:=y) h rfl (ah (x:=x) h rfl (aM h λw h=>ac (ah (x:=x) h rfl (ac (ah (x:=v.id) h rfl (ah (x:=v.nx) h rfl (aD h λn63 w h=>?_)))))));refine aN h rfl (aN h rfl (aN h rfl ?_));rw[e1,e2];refine az h (by rfl) λw h=>aM h λw h=>ah (x:=if v.nx>aj then v.nx else aj) h rfl (ac (ah (x:=some ⟨mb,0⟩) h rfl (ac (ah (x:=u.m.ba) h rfl ?_))));rw[hu];refine aK (uY (y-x) v.md.ba (by omega) hm.ba) (h.le ((aJ _).trans (be _ _))) λw h=>?_;have h:=h.drop;refine aN h rfl (aK (fP _ _ hst hD) (h.le ((aJ _).trans (be _ _))) λw h=>?_);have h:=h.drop;refine ac (aA h b (rL m0 c0 {v with nx:=bJ (if v.nx>aj then v.nx else aj) (dY (y-x) v.md.ba)} s mb) rfl rfl rfl λw h=>?_);refine ac (ah (x:=v.out) h rfl ?_);rw[e1];refine ar (fP v.out (y-x) ⟨ho.1,by omega⟩ ⟨hab.1,by omega⟩) (h.le ((aJ _).trans (be _ _))) λr w h=>?_;obtain⟨hr,h⟩:=h.aP;have e3:bJ v.out (y-x)=v.out+(y-x):=by unfold bJ;rw[aG (by omega)]
 rw[hr,e3];have h:=h.drop;refine ac (aA h b (rL m0 c0 {v with nx:=bJ (if v.nx>aj then v.nx else aj) (dY (y-x) v.md.ba),out:=v.out+(y-x)} s mb) rfl rfl rfl λw h=>?_);refine aw (b:=n63) (x:=(lq v (x,y) ag aj).1) h rfl (az h (by rfl) λw h=>aw (b:=n1) (x:=(lq v (x,y) ag aj).1) h rfl ?_);have h:au w0 S0 R0 w (af b (rL m0 c0 (eV (lq v (x,y) ag aj).2 v.bd.2) s mb)^aS s aF v.bd.1^(af mb (ad.db nw u)^af nw (ad.eg u.m.w))^G):=by
  have h:au w0 S0 R0 w (af b (rL m0 c0 {v with nx:=bJ (if v.nx>aj then v.nx else aj) (dY (y-x) v.md.ba),out:=v.out+(y-x)} s mb)^aS s aF v.bd.1^(af mb (ad.db nw u)^af nw (ad.eg u.m.w))^G):=h.aI;exact h
 exact k w (h.iW b m0 c0 (lq v (x,y) ag aj).2 mb s v.bd.1 v.bd.2).aI
end Xq

namespace YG
open bH bp gV fb gM fK yb Eh eY fV eI lz ny oO oP my nz nA Lu WY SH Tz PD JE Xq
abbrev KR:Ks:=[.int .u64,.int .u64]
theorem KY(b)(m0:Int)(v)(hv:pV v)(hL:ry v.bd.1)(hm:v.bt=bn m0)(aj:Int)(hn:U aj):bu (Qa (some ⟨b,0⟩) aj) (mr b m0 v.cap v) (λr=>bs (r=(cq v aj).1) (mr b m0 v.cap (cq v aj).2)):=
 bC λw0 S R h=>by
  have hbl:v.bd.1.length≤4294967296:=by have:=hv.bl;omega
  have hts:=sQ v.md.ba v.bt hv.md.ba.1;have b1:=hv.bf.u;have b2:=hv.bf.un;have b3:=hv.bf.nw;have b4:=hv.bf.w;obtain⟨c0,hc0⟩:∃c0,c0=v.cap:=⟨_,rfl⟩;rw[←hc0]at h⊢;obtain⟨mb,nw,u,hu,h⟩:=(h.le (aJ _)).mr b (m0:=m0) (c0:=c0) (v:=v);obtain⟨hu1,hu2,hu3⟩:=hu;have bad:∀{w:World} {n1:Nat} (e:Int),e≠0→(dV v).1=e→∀{G:SP},au w0 S R w (af n1 zS^ko b m0 c0 (dV v).2 mb v.bd^(af mb (ad.db nw u)^af nw (ad.eg u.m.w))^G)→
    st ⟨n1,0⟩ zS (ld KS ⟨n1,0⟩ λ(x:Ks.T KS)=>(λ(r:Ks.T KS×Int) w=>au w0 S R w (bs (r=(cq v aj).1) (mr b m0 c0 (cq v aj).2))) (x,e)) w:=by
   intro w n1 e he hme G h;have ee:cq v aj=((RA,(dV v).1),(dV v).2):=by unfold cq;rw[aG (by rw[hme];exact he)]
   have em:(dV v).2.md=v.md∧(dV v).2.bd=v.bd:=(by unfold dV;(repeat' split)<;>exact⟨rfl,rfl⟩);refine az h (by rfl) λw h=>aw (b:=n1) (x:=RA) h rfl ?_;rw[ee,hme];have h:au w0 S R w (ko b m0 c0 (dV v).2 mb (dV v).2.bd^(af mb (ad.db nw u)^af nw (ad.eg u.m.w))^bg):=(by rw[em.2];exact h.aI);exact au.aH rfl (h.xS b m0 c0 (dV v).2 mb nw u ⟨by rw[em.1];exact hu1,hu2,by rw[em.1];exact hu3⟩).br
  refine aD h λn1 w h=>ac (aK (HB b m0 c0 v mb v.bd hbl) h λw h=>?_);refine aD h λn4 w h=>az h (by rfl) λw h=>ac (aK (qT b m0 c0 v mb v.bd hbl) h λw h=>?_);obtain⟨s,h⟩:=h.ko (m0:=m0) (c0:=c0) (u:=v) (mq:=mb) (v:=v.bd) b;have h:au w0 S R w (af b (rL m0 c0 v s mb)^aS s aF v.bd.1^af n1 zS^af n4 (Ks.mk KR (bE v.bd.1).1)^(af mb (ad.db nw u)^af nw (ad.eg u.m.w))^bg):=h.aI;have hsl:=((h.take (aS s aF v.bd.1)).rd (s:=s)).2;refine aQ h (λ_=>af b (rL m0 c0 v s mb)^aS s aF v.bd.1^af n1 zS^af n4 (Ks.mk KR (bE v.bd.1).1)^(af mb (ad.db nw u)^af nw (ad.eg u.m.w))^bg) (λy:Bool=>y=decide ((bE v.bd.1).2=false∧bW v.bf-bN v.bf=0)) (λ(y:Bool) w hy h=>?_) ?_;rotate_left
  ·refine aM h λw h=>ae (λc=>?_) λc=>?_
   ·have c:(bE v.bd.1).2=false:=cC;refine ac (ac (ah (x:=bN v.bf) h rfl (ah (x:=bW v.bf) h rfl ⟨?_,h⟩)));show(bN v.bf==bW v.bf)=_;by_cases e:bN v.bf=bW v.bf
    ·rw[mE (show _∧_ from⟨c,by omega⟩),e];simp
    ·rw[nO (λhh:_∧_=>e (by have:=hh.2;omega))];simpa using e
   ·have c:(bE v.bd.1).2=true:=cC;exact⟨by rw[nO (λhh:_∧_=>by rw[c]at hh;cases hh.1)],h⟩
  rw[hy];refine ae (λc=>?_) λc=>?_
  ·have c:=bV c;refine ac (ah (x:=some ⟨mb,0⟩) h rfl (ac (ah (x:=u.m.cN) h rfl (ae (λc2=>?_) λc2=>?_))))
   ·have c2:cZ v<v.md.cN:=(by have:=bV c2;rw[hu1]at this;exact this);have em:dV v=(7,{v with sp:=ow v.sp (cZ v)}):=(by unfold dV;rw[aG c,aG c2]);refine ac (ar (FO b m0 c0 v s mb (cZ v) hv.sp hv.fl) h λ_ w h=>?_);have h:au w0 S R w (af b (rL m0 c0 (eV {v with sp:=ow v.sp (cZ v)} v.bd.2) s mb)^aS s aF v.bd.1^af n1 zS^af n4 (Ks.mk KR (bE v.bd.1).1)^(af mb (ad.db nw u)^af nw (ad.eg u.m.w))^bg):=h.aI;have h:=h.iW b m0 c0 {v with sp:=ow v.sp (cZ v)} mb s v.bd.1 v.bd.2;have h:au w0 S R w (af n1 zS^ko b m0 c0 (dV v).2 mb v.bd^(af mb (ad.db nw u)^af nw (ad.eg u.m.w))^af n4 (Ks.mk KR (bE v.bd.1).1)):=(by rw[em];exact h.aI);exact bad 7 (by decide) (by rw[em]) h
   ·have c2:¬cZ v<v.md.cN:=(by have:=bY c2;rw[hu1]at this;exact this);have em:dV v=(7,v):=(by unfold dV;rw[aG c,ay c2]);have h:au w0 S R w (af b (rL m0 c0 (eV v v.bd.2) s mb)^aS s aF v.bd.1^af n1 zS^af n4 (Ks.mk KR (bE v.bd.1).1)^(af mb (ad.db nw u)^af nw (ad.eg u.m.w))^bg):=h;have h:=h.iW b m0 c0 v mb s v.bd.1 v.bd.2;have h:au w0 S R w (af n1 zS^ko b m0 c0 (dV v).2 mb v.bd^(af mb (ad.db nw u)^af nw (ad.eg u.m.w))^af n4 (Ks.mk KR (bE v.bd.1).1)):=(by rw[em];exact h.aI);exact bad 7 (by decide) (by rw[em]) h
  ·have c:=bY c;refine aQ h (λ_=>af b (rL m0 c0 v s mb)^aS s aF v.bd.1^af n1 zS^af n4 (Ks.mk KR (bE v.bd.1).1)^(af mb (ad.db nw u)^af nw (ad.eg u.m.w))^bg) (λy:Bool=>y=decide (¬(cZ v<v.md.cN∧v.out<ik v.md.ba (bB v) v.cap)∨((bE v.bd.1).2=false∧(v.bd.1.length:Int)≥4096))) (λ(y:Bool) w hy h=>?_) ?_;rotate_left
   ·refine aM h λw h=>ac (ah (x:=some ⟨mb,0⟩) h rfl (ac (ah (x:=u.m.cN) h rfl (ae (λc2=>?_) λc2=>?_))))
    ·have c2:cZ v≥v.md.cN:=(by have:=bV c2;rw[hu1]at this;exact this);exact⟨(mE (.inl (λhh=>by have:=hh.1;omega))).symm,h⟩
    ·have c2:¬cZ v≥v.md.cN:=(by have:=bY c2;rw[hu1]at this;exact this);refine ac (ac (ac (ah (x:=v.out) h rfl (ah (x:=some ⟨mb,0⟩) h rfl (ah (x:=c0) h rfl (ac (ah (x:=v.md.ba) h (by rw[←hu1];rfl) ?_)))))));refine aK (AO b mb nw m0 c0 v s u hu1 hv.md.ba hm) h λw h=>?_;refine aN h (by rw[←hu1];rfl) (aN h rfl (aN h rfl (aN h rfl ?_)));refine ar (mV.HN v.md.ba (bB v) c0 hv.md.ba ⟨by unfold bB;omega,by unfold bB;omega⟩ (by rw[hc0];exact hv.cap)) (h.le ((aJ _).trans (be _ _))) λr w h=>?_;obtain⟨hr,h⟩:=h.aP;have h:=h.drop;rw[hr,hc0];refine aN h rfl (ae (λc3=>?_) λc3=>?_)
     ·have c3:v.out≥ik v.md.ba (bB v) v.cap:=bV c3;rw[←hc0];exact⟨(mE (.inl (λhh=>by have:=hh.2;rw[←hc0]at*;omega))).symm,h.aI⟩
     ·have c3:¬v.out≥ik v.md.ba (bB v) v.cap:=bY c3;have hgo:cZ v<v.md.cN∧v.out<ik v.md.ba (bB v) v.cap:=⟨by omega,by omega⟩;rw[←hc0];refine ae (λc4=>?_) λc4=>?_
      ·have c4:(bE v.bd.1).2=false:=(by simpa using c4);refine ac (ah (x:=s) h rfl ⟨?_,h.aI⟩);rw[hsl];by_cases e:(v.bd.1.length:Int)≥4096
       ·rw[mE e,mE (.inr ⟨c4,e⟩)]
       ·rw[nO e,nO];rintro(hh|hh)
        ·exact hh (by rw[hc0];exact hgo)
        ·exact e hh.2
      ·have c4:(bE v.bd.1).2=true:=(by simpa using c4);refine⟨?_,h.aI⟩;rw[nO];rintro(hh|hh)
       ·exact hh (by rw[hc0];exact hgo)
       ·rw[c4]at hh;cases hh.1
   rw[hy];refine ae (λc2=>?_) λc2=>?_
   ·have c2:=bV c2;have em:dV v=(5,v):=by
     unfold dV;rw[ay c];by_cases e:¬(cZ v<v.md.cN∧v.out<ik v.md.ba (bB v) v.cap)
     ·rw[aG e]
     ·rw[ay e];rcases c2 with c2|c2
      ·exact absurd c2 e
      ·rw[aG c2]
    have h:au w0 S R w (af b (rL m0 c0 (eV v v.bd.2) s mb)^aS s aF v.bd.1^af n1 zS^af n4 (Ks.mk KR (bE v.bd.1).1)^(af mb (ad.db nw u)^af nw (ad.eg u.m.w))^bg):=h;have h:=h.iW b m0 c0 v mb s v.bd.1 v.bd.2;have h:au w0 S R w (af n1 zS^ko b m0 c0 (dV v).2 mb v.bd^(af mb (ad.db nw u)^af nw (ad.eg u.m.w))^af n4 (Ks.mk KR (bE v.bd.1).1)):=(by rw[em];exact h.aI);exact bad 5 (by decide) (by rw[em]) h
   ·have c2:=bY c2;have c3:cZ v<v.md.cN∧v.out<ik v.md.ba (bB v) v.cap:=Dw.1 λhh=>c2 (.inl hh);have em:(dV v).1=0:=by
     unfold dV;rw[ay c,ay (λhh=>hh c3),ay (λhh=>c2 (.inr hh))]
    have ee:cq v aj=(((vb v aj).1,0),(vb v aj).2):=(by unfold cq;rw[ay (by rw[em];exact λe=>e rfl)]);have hout:v.out<18014398509481984:=(C9 hv.md.ba em).1;rw[ee];have ho2:0≤v.out∧v.out+65536<18446744073709551616:=⟨hv.out.1,by omega⟩;obtain⟨sn,hsn⟩:∃sn,sn=(jI v.sp aj (cZ v)).1:=⟨_,rfl⟩;refine ac (ar (HW b m0 c0 v s mb aj (cZ v)) h λr w h=>?_);obtain⟨hr,h⟩:=h.aP;rw[hr,←hsn];have h:au w0 S R w (af b (rL m0 c0 (eV (eK v aj) v.bd.2) s mb)^aS s aF v.bd.1^af n1 zS^af n4 (Ks.mk KR (bE v.bd.1).1)^(af mb (ad.db nw u)^af nw (ad.eg u.m.w))^bg):=h.aI;have h:=h.iW b m0 c0 (eK v aj) mb s v.bd.1 v.bd.2;refine aD h λn42 w h=>az h (by rfl) λw h=>?_;have aI:∀(V:Sk) (rg:Int×Int) (ag:Bool),vb v aj=lq V rg ag aj→V.md=v.md→V.nx=v.nx→V.out=v.out→(0≤rg.2-rg.1∧rg.2-rg.1≤65536)→∀{w:World},au w0 S R w (af n1 zS^af n4 [aB rg.1,aB rg.2]^ko b m0 c0 V mb V.bd^(af mb (ad.db nw u)^af nw (ad.eg u.m.w))^bg)→Ow b n1 n4 aj ag (λ(r:Ks.T KS×Int) w=>au w0 S R w (bs (r=((vb v aj).1,0)) (mr b m0 c0 (vb v aj).2))) w:=by
     intro V rg ag hg e1 e2 e3 hrg w h;rw[hg];refine WM (G:=bg) (mb:=mb) (nw:=nw) (m0:=m0) (c0:=c0) (v:=V) (u:=u) (x:=rg.1) (y:=rg.2) (by rw[e1];exact hu1) (by rw[e1];exact hv.md) hn (by rw[e2];exact hv.nx) hrg (by rw[e3];exact ho2) h λw h=>?_;have h:au w0 S R w (ko b m0 c0 (lq V rg ag aj).2 mb (lq V rg ag aj).2.bd^(af mb (ad.db nw u)^af nw (ad.eg u.m.w))^bg):=h;exact au.aH rfl (h.xS b m0 c0 (lq V rg ag aj).2 mb nw u ⟨by rw[show(lq V rg ag aj).2.md=V.md from rfl,e1];exact hu1,hu2,by rw[show(lq V rg ag aj).2.md=V.md from rfl,e1];exact hu3⟩).br
    cases hl:(bE v.bd.1).2 with
    |true=>
     have hg:vb v aj=lq {eK v aj with bd:=(dN v.bd.1 sn,v.bd.2)} (bE v.bd.1).1 true aj:=(by unfold vb;rw[aG hl,hsn]);refine aQ h (λ_=>af n1 zS^af n4 [aB (bE v.bd.1).1.1,aB (bE v.bd.1).1.2]^ko b m0 c0 {eK v aj with bd:=(dN v.bd.1 sn,v.bd.2)} mb (dN v.bd.1 sn,v.bd.2)^(af mb (ad.db nw u)^af nw (ad.eg u.m.w))^bg) (λ_=>True) (λ_ w _ h=>?_) ?_
     ·exact aI {eK v aj with bd:=(dN v.bd.1 sn,v.bd.2)} (bE v.bd.1).1 true hg rfl rfl rfl (hL hl) h
     ·refine ae (λ_=>?_) λc=>by cases c
      refine aM h λw h=>aw (b:=n42) (x:=sn) h rfl (ac (ar (FG b m0 c0 (eK v aj) mb sn v.bd hbl) h λr w h=>?_));obtain⟨_,h⟩:=h.aP;obtain⟨s,h⟩:=h.ko (m0:=m0) (c0:=c0) (u:=eK v aj) (mq:=mb) (v:=(dN v.bd.1 sn,v.bd.2)) b;have h:au w0 S R w (af b (rL m0 c0 (eV (eK v aj) v.bd.2) s mb)^aS s aF (dN v.bd.1 sn)^af n1 zS^af n4 (Ks.mk KR (bE v.bd.1).1)^(af mb (ad.db nw u)^af nw (ad.eg u.m.w))^bg):=h.aI;have h:au w0 S R w (af b (rL m0 c0 (eV {eK v aj with bd:=(dN v.bd.1 sn,v.bd.2)} v.bd.2) s mb)^aS s aF (dN v.bd.1 sn)^af n1 zS^af n4 [aB (bE v.bd.1).1.1,aB (bE v.bd.1).1.2]^(af mb (ad.db nw u)^af nw (ad.eg u.m.w))^bg):=h;exact⟨trivial,(h.iW b m0 c0 {eK v aj with bd:=(dN v.bd.1 sn,v.bd.2)} mb s (dN v.bd.1 sn) v.bd.2).aI⟩
    |false=>
     obtain⟨T,hT⟩:∃T,T=lx v.bf (bB v):=⟨_,rfl⟩;have hg:vb v aj=lq {eK v aj with bf:=T.2,bd:=(ej v.bd T.1.1.1 T.1.1.2 sn).2} T.1.1 false aj:=by unfold vb;rw[ay (by rw[hl];intro c;cases c),hsn,hT]
     refine aQ h (λ_=>af n1 zS^af n4 [aB T.1.1.1,aB T.1.1.2]^ko b m0 c0 {eK v aj with bf:=T.2,bd:=(ej v.bd T.1.1.1 T.1.1.2 sn).2} mb (ej v.bd T.1.1.1 T.1.1.2 sn).2^(af mb (ad.db nw u)^af nw (ad.eg u.m.w))^bg) (λ_=>True) (λ_ w _ h=>?_) ?_
     ·exact aI {eK v aj with bf:=T.2,bd:=(ej v.bd T.1.1.1 T.1.1.2 sn).2} T.1.1 false hg rfl rfl rfl (by rw[hT];exact F0 hv.bf hts.2) h
     ·refine ae (λc=>by cases c) λ_=>?_;obtain⟨s,h⟩:=h.ko (m0:=m0) (c0:=c0) (u:=eK v aj) (mq:=mb) (v:=v.bd) b;have h:au w0 S R w (af b (rL m0 c0 (eK v aj) s mb)^aS s aF v.bd.1^af n42 (Ks.mk cw sn)^af n1 zS^af n4 (Ks.mk KR (bE v.bd.1).1)^(af mb (ad.db nw u)^af nw (ad.eg u.m.w))^bg):=h.aI;refine aM h λw h=>ac (aK (AO b mb nw m0 c0 (eK v aj) s u hu1 hv.md.ba hm) h λw h=>?_);refine ar (Lc b m0 c0 (eK v aj) s mb (bB v) hv.bf (by unfold bB;omega)) h λr w h=>?_;obtain⟨hr,h⟩:=h.aP;have hr:r=T.1:=by rw[hr,hT]
      rw[hr];refine az h (by rfl) λw h=>aM h λw h=>aw (b:=n42) (x:=sn) h rfl (ac (ah (x:=T.1.1.1) h rfl (ah (x:=T.1.1.2) h rfl ?_)));have h:au w0 S R w (af n4 (Ks.mk KR T.1.1)^af b (rL m0 c0 {eK v aj with bf:=(lx (eK v aj).bf (bB v)).2} s mb)^aS s aF v.bd.1^af n1 zS^(af mb (ad.db nw u)^af nw (ad.eg u.m.w))^bg):=h.aI;have h:au w0 S R w (af n4 [aB T.1.1.1,aB T.1.1.2]^af b (rL m0 c0 (eV {eK v aj with bf:=(lx v.bf (bB v)).2} v.bd.2) s mb)^aS s aF v.bd.1^af n1 zS^(af mb (ad.db nw u)^af nw (ad.eg u.m.w))^bg):=h;rw[←hT]at h;have h:=h.iW b m0 c0 {eK v aj with bf:=T.2} mb s v.bd.1 v.bd.2;refine ar (HD b m0 c0 {eK v aj with bf:=T.2} mb T.1.1.1 T.1.1.2 sn v.bd) h λr w h=>?_;obtain⟨_,h⟩:=h.aP;obtain⟨s,h⟩:=h.ko (m0:=m0) (c0:=c0) (u:={eK v aj with bf:=T.2}) (mq:=mb) (v:=(ej v.bd T.1.1.1 T.1.1.2 sn).2) b;have h:au w0 S R w (af b (rL m0 c0 (eV {eK v aj with bf:=T.2,bd:=(ej v.bd T.1.1.1 T.1.1.2 sn).2} (ej v.bd T.1.1.1 T.1.1.2 sn).2.2) s mb)^aS s aF (ej v.bd T.1.1.1 T.1.1.2 sn).2.1^af n1 zS^af n4 [aB T.1.1.1,aB T.1.1.2]^(af mb (ad.db nw u)^af nw (ad.eg u.m.w))^bg):=h.aI;exact⟨trivial,(h.iW b m0 c0 {eK v aj with bf:=T.2,bd:=(ej v.bd T.1.1.1 T.1.1.2 sn).2} mb s (ej v.bd T.1.1.1 T.1.1.2 sn).2.1 (ej v.bd T.1.1.1 T.1.1.2 sn).2.2).aI⟩
end YG

namespace TA
open bH bp gV fb gM fK yb Eh eY fV eI fe lz ny oO oP my nz yO nA oS mV Lu WY SH Tz PD JE Xq YG
theorem Ya(m:Int)(hm:m<9223372036854775808):nn (u64.wrap (if m>(0:Int)then m else(0:Int)))=nn (bn m):=by
 have h:u64.wrap (if m>(0:Int)then m else(0:Int))=(if m>(0:Int)then m else(0:Int)):=wu (by split<;>omega) (by split<;>omega);rw[h];unfold nn bn
 (repeat' split)<;>omega
theorem V7(m:Int)(hm:m<9223372036854775808):mM (u64.wrap (if m>(0:Int)then m else(0:Int)))=mM (bn m):=by
 unfold mM;rw[Ya m hm]
theorem Cm(id:Int)(c)(hc:c.2.2.2.2.2.2.2.2<9223372036854775808):bu (ZZ id c) bg (λr=>ex λp:Nat=>bs (r=some ⟨p,0⟩) (mr p c.2.2.2.2.2.2.2.2 c.2.2.2.2.2.2.2.1 (iO id c.2.2.2.2.2.2.2.2 c.2.2.2.2.2.2.2.1))):=
 bC λw0 S R h=>by
  obtain⟨m,hm⟩:∃m:Int,m=c.2.2.2.2.2.2.2.2:=⟨_,rfl⟩;obtain⟨k,hk⟩:∃k:Int,k=c.2.2.2.2.2.2.2.1:=⟨_,rfl⟩;rw[←hm]at hc;refine aD h λn1 w h=>aM h λw h=>ah (x:=m) h (by rw[hm];rfl) (ah (x:=k) h (by rw[hk];rfl) (ah (x:=m) h (by rw[hm];rfl) ?_));refine ar (AL (u64.wrap (if m>(0:Int)then m else(0:Int)))) (h.le ((aJ _).trans (be _ _))) λr w h=>?_;obtain⟨⟨mb,nw⟩,h⟩:=h.lV;dsimp only at h;obtain⟨hr,h⟩:=h.aP;rw[hr];rw[V7 m hc]at h;obtain⟨u,hu⟩:∃u:Rm,u=Rm.mk (mM (bn m)) false 0 739:=⟨_,rfl⟩;have h:au w0 S R w ((af mb (ad.db nw u)^af nw (ad.eg u.m.w))^af n1 (Ks.mk KCf c)^bg):=by rw[hu];exact h.aI
  refine aN h (by rw[hk];rfl) (aN h (by rw[hm];rfl) (aD h λn6 w h=>?_));have h:=h.nil aF;have h:au w0 S R w (af n6 (rL m k (eV (iO id m k) 0) ⟨none,0,0⟩ mb)^aS ⟨none,0,0⟩ aF []^(af mb (ad.db nw u)^af nw (ad.eg u.m.w))^bg):=by
   have h:au w0 S R w (af n6 [aE id,aE m,aE k,aE (1073741824:Int),aB (0:Int),aB (0:Int),aB (0:Int),aY ⟨none,0,0⟩,aB (0:Int),aB (0:Int),aB (0:Int),aB (0:Int),aB (0:Int),bc false,aB (0:Int),aB (0:Int),aB (0:Int),aB (0:Int),aB (0:Int),bc false,.ptr (some ⟨mb,0⟩),aB (0:Int),aB (0:Int)]^aS ⟨none,0,0⟩ aF []^(af mb (ad.db nw u)^af nw (ad.eg u.m.w))^bg):=h.aI;exact h
  have h:=h.iW n6 m k (iO id m k) mb ⟨none,0,0⟩ [] 0;have h:au w0 S R w (ko n6 m k (iO id m k) mb (iO id m k).bd^(af mb (ad.db nw u)^af nw (ad.eg u.m.w))^bg):=h;rw[←hm,←hk];exact au.ie n6 (au.aH rfl (h.xS n6 m k (iO id m k) mb nw u (by rw[hu];exact⟨rfl,(λhh=>by cases hh),rfl⟩)).br)
theorem F2(H:∀w S R,au w S R w Pre→call P f args rs (λx w'=>au w S R w' (Post x)) w):tT P f args rs Pre Post:=
 λw S R hp=>kD.mono (H w S R (tq hp)) λv w' ⟨x,hv,_,ho⟩=>⟨x,hv,ho⟩
theorem Ja(b)(m0 c0:Int)(v)(hb:rR v.bf)(hl:bL v.bf=1073741824)(hw:bW v.bf≤1152921504606846976)(n:Int)(hn:n<9223372036854775808):bu (YS (some ⟨b,3⟩) n) (mr b m0 c0 v) (λr=>bs (r=(eM v n).1) (mr b m0 c0 (eM v n).2)):=
 F2 λw0 S R h=>by
  obtain⟨mb,nw,u,hu,h⟩:=(h.le (aJ _)).mr b (m0:=m0) (c0:=c0) (v:=v);obtain⟨s,h⟩:=h.ko (m0:=m0) (c0:=c0) (u:=v) (mq:=mb) (v:=v.bd) b;have h:au w0 S R w0 (af b (rL m0 c0 v s mb)^aS s aF v.bd.1^(af mb (ad.db nw u)^af nw (ad.eg u.m.w))^bg):=h;refine ar (HZ b m0 c0 v s mb n hb hl hw hn) h λr w h=>?_;obtain⟨hr,h⟩:=h.aP;have h:au w0 S R w (af b (rL m0 c0 (eV (eM v n).2 v.bd.2) s mb)^aS s aF v.bd.1^(af mb (ad.db nw u)^af nw (ad.eg u.m.w))^bg):=h;have h:=h.iW b m0 c0 (eM v n).2 mb s v.bd.1 v.bd.2;have h:au w0 S R w (ko b m0 c0 (eM v n).2 mb (eM v n).2.bd^(af mb (ad.db nw u)^af nw (ad.eg u.m.w))^bg):=h;exact au.aH hr (h.xS b m0 c0 (eM v n).2 mb nw u hu).br
theorem Kc(v)(n:Int):(cv v n).2.md=v.md∧(cv v n).2.bd=v.bd:=by unfold cv;split<;>exact⟨rfl,rfl⟩
theorem yE(b)(m0 c0:Int)(v)(ho:0≤v.out∧v.out<9223372036854775808)(n:Int)(hn:n<9223372036854775808):bu (VF (some ⟨b,0⟩) n) (mr b m0 c0 v) (λr=>bs (r=(cv v n).1) (mr b m0 c0 (cv v n).2)):=
 F2 λw0 S R h=>by
  obtain⟨k1,k2⟩:=Kc v n;obtain⟨mb,nw,u,hu,h⟩:=(h.le (aJ _)).mr b (m0:=m0) (c0:=c0) (v:=v);obtain⟨s,h⟩:=h.ko (m0:=m0) (c0:=c0) (u:=v) (mq:=mb) (v:=v.bd) b;have h:au w0 S R w0 (af b (rL m0 c0 v s mb)^aS s aF v.bd.1^(af mb (ad.db nw u)^af nw (ad.eg u.m.w))^bg):=h;refine ar (KX b m0 c0 v s mb n ho hn) h λr w h=>?_;obtain⟨hr,h⟩:=h.aP;rw[←k2]at h;have h:au w0 S R w (af b (rL m0 c0 (eV (cv v n).2 (cv v n).2.bd.2) s mb)^aS s aF (cv v n).2.bd.1^(af mb (ad.db nw u)^af nw (ad.eg u.m.w))^bg):=h;have h:=h.iW b m0 c0 (cv v n).2 mb s (cv v n).2.bd.1 (cv v n).2.bd.2;have h:au w0 S R w (ko b m0 c0 (cv v n).2 mb (cv v n).2.bd^(af mb (ad.db nw u)^af nw (ad.eg u.m.w))^bg):=h;exact au.aH hr (h.xS b m0 c0 (cv v n).2 mb nw u (by rw[k1];exact hu)).br
structure rf(m0 c0:Int)(v:Sk):Prop where
 m:v.bt=bn m0
 c:v.cap=c0
 l:bL v.bf=1073741824
theorem rf.of{m0 c0:Int}(h:rf m0 c0 v)(h1:v'.bt=v.bt)(h2:v'.cap=v.cap)(h3:bL v'.bf=bL v.bf):rf m0 c0 v':=⟨h1.trans h.m,h2.trans h.c,h3.trans h.l⟩
theorem aas(b)(m:Int):bL (lx b m).2=bL b:=by unfold lx;split<;>rfl
theorem rf.emit{m0 c0:Int}(h:rf m0 c0 v)(aj:Int):rf m0 c0 (cq v aj).2:=by
 have e1:(dV v).2.bt=v.bt∧(dV v).2.cap=v.cap∧bL (dV v).2.bf=bL v.bf:=by unfold dV;(repeat' split)<;>exact⟨rfl,rfl,rfl⟩
 have e2:(vb v aj).2.bt=v.bt∧(vb v aj).2.cap=v.cap∧bL (vb v aj).2.bf=bL v.bf:=by
  unfold vb;split
  ·exact⟨rfl,rfl,rfl⟩
  ·exact⟨rfl,rfl,aas _ _⟩
 unfold cq;split
 ·exact h.of e1.1 e1.2.1 e1.2.2
 ·exact h.of e2.1 e2.2.1 e2.2.2
theorem rf.Ep{m0 c0:Int}(h:rf m0 c0 v)(aj upto:Int)(xs:List (Int×Int)):rf m0 c0 (om v aj upto xs).2:=by
 unfold om;split
 ·exact h.of rfl rfl (by show bL (tN v.bf upto).2=_;unfold tN;split<;>rfl)
 ·exact h
theorem rf.yh{m0 c0:Int}(h:rf m0 c0 v)(aj:Int):rf m0 c0 (io v aj):=h.of rfl rfl rfl
theorem rf.done{m0 c0:Int}(h:rf m0 c0 v)(n:Int):rf m0 c0 (cv v n).2:=by
 unfold cv;split
 ·exact h
 ·exact h.of rfl rfl rfl
theorem rf.write{m0 c0:Int}(h:rf m0 c0 v)(n:Int):rf m0 c0 (eM v n).2:=h.of rfl rfl (by show bL (Bg v.bf n).2=_;unfold Bg;(repeat' split)<;>rfl)
end TA

namespace WZ
open bH bp gV fb gM fK yb Eh eY fV eI fe lz ny oO oP my nz yO nA oS mV Lu WY SH Tz PD JE Xq YG TA
section
variable {w0 w:World} {S0 R0:Nat→Prop} {F G:SP} {b:Nat} {m0 c0:Int} {v:Sk}
theorem AH(b){m0 c0:Int}(hv:pV v)(hL:ry v.bd.1)(hr:rf m0 c0 v)(aj:Int)(hn:U aj):bu (Qa (some ⟨b,0⟩) aj) (mr b m0 c0 v) (λr=>bs (r=(cq v aj).1) (mr b m0 c0 (cq v aj).2)):=by
 have h:=KY b m0 v hv hL hr.m aj hn;rw[hr.c]at h;exact h
theorem Cq(h:au w0 S0 R0 w F)[tk:Take (mr b m0 c0 v) F G]{K:Int→WP}(k:K v.id w):ld [.int .i64] ⟨b,0⟩ K w:=by
 obtain⟨mb,nw,u,hu,h⟩:=(h.le tk.le).mr b (m0:=m0) (c0:=c0) (v:=v);obtain⟨s,h⟩:=h.ko (m0:=m0) (c0:=c0) (u:=v) (mq:=mb) (v:=v.bd) b;exact ah (x:=v.id) h rfl k
theorem wD(h:au w0 S0 R0 w F)[tk:Take (mr b m0 c0 v) F G]{K:Int→WP}(k:K v.md.ba w):ld [.ptr] ⟨b,0+20⟩ (λx:bO=>aC x λq=>ld [.int .u64] ⟨q.b,q.o+24⟩ K) w:=by
 obtain⟨mb,nw,u,⟨hu,_,_⟩,h⟩:=(h.le tk.le).mr b (m0:=m0) (c0:=c0) (v:=v);obtain⟨s,h⟩:=h.ko (m0:=m0) (c0:=c0) (u:=v) (mq:=mb) (v:=v.bd) b;exact ah (x:=some ⟨mb,0⟩) h rfl (ac (ah (x:=u.m.ba) h rfl (by rw[hu];exact k)))
end
end WZ

namespace Ij
open fL
structure Cx where
 aj:Int
 k:Nat→xH.Ct
 p:Nat→bO
abbrev mA(X:Cx):List Lf:=[aE (X.k 0).1,aE (X.k 0).2.1,aE (X.k 0).2.2.1,aE (X.k 0).2.2.2.1,aE (X.k 0).2.2.2.2.1,aE (X.k 0).2.2.2.2.2.1,aE (X.k 0).2.2.2.2.2.2.1,aE (X.k 0).2.2.2.2.2.2.2,aE (X.k 1).1,aE (X.k 1).2.1,aE (X.k 1).2.2.1,aE (X.k 1).2.2.2.1,aE (X.k 1).2.2.2.2.1,aE (X.k 1).2.2.2.2.2.1,aE (X.k 1).2.2.2.2.2.2.1,aE (X.k 1).2.2.2.2.2.2.2,aE (X.k 2).1,aE (X.k 2).2.1,aE (X.k 2).2.2.1,aE (X.k 2).2.2.2.1,aE (X.k 2).2.2.2.2.1,aE (X.k 2).2.2.2.2.2.1,aE (X.k 2).2.2.2.2.2.2.1,aE (X.k 2).2.2.2.2.2.2.2,aE (X.k 3).1,aE (X.k 3).2.1,aE (X.k 3).2.2.1,aE (X.k 3).2.2.2.1,aE (X.k 3).2.2.2.2.1,aE (X.k 3).2.2.2.2.2.1,aE (X.k 3).2.2.2.2.2.2.1,aE (X.k 3).2.2.2.2.2.2.2,aE (X.k 4).1,aE (X.k 4).2.1,aE (X.k 4).2.2.1,aE (X.k 4).2.2.2.1,aE (X.k 4).2.2.2.2.1,aE (X.k 4).2.2.2.2.2.1,aE (X.k 4).2.2.2.2.2.2.1,aE (X.k 4).2.2.2.2.2.2.2,aE (X.k 5).1,aE (X.k 5).2.1,aE (X.k 5).2.2.1,aE (X.k 5).2.2.2.1,aE (X.k 5).2.2.2.2.1,aE (X.k 5).2.2.2.2.2.1,aE (X.k 5).2.2.2.2.2.2.1,aE (X.k 5).2.2.2.2.2.2.2,aE (X.k 6).1,aE (X.k 6).2.1,aE (X.k 6).2.2.1,aE (X.k 6).2.2.2.1,aE (X.k 6).2.2.2.2.1,aE (X.k 6).2.2.2.2.2.1,aE (X.k 6).2.2.2.2.2.2.1,aE (X.k 6).2.2.2.2.2.2.2,aE (X.k 7).1,aE (X.k 7).2.1,aE (X.k 7).2.2.1,aE (X.k 7).2.2.2.1,aE (X.k 7).2.2.2.2.1,aE (X.k 7).2.2.2.2.2.1,aE (X.k 7).2.2.2.2.2.2.1,aE (X.k 7).2.2.2.2.2.2.2,.ptr (X.p 0),.ptr (X.p 1),.ptr (X.p 2),.ptr (X.p 3),.ptr (X.p 4),.ptr (X.p 5),.ptr (X.p 6),.ptr (X.p 7)]
def kv(b:Nat)(X:Cx)(pre:List Lf)(v:LV):SP:=ex λs:Sl×Sl=>af b (pre++.sl s.1::aY s.2::mA X)^aS s.1 KI v.1^aS s.2 KI v.2
instance(b:Nat)(X:Cx)(pre:List Lf)(v:LV):nl (kv b X pre v):=by unfold kv;infer_instance
theorem _root_.Go.X.au.kv(h:au w0 S0 R0 w F)(b X pre v)[t:Take (Ij.kv b X pre v) F G]:∃s1 s2,au w0 S0 R0 w (af b (pre++.sl s1::aY s2::mA X)^aS s1 KI v.1^aS s2 KI v.2^G):=by
 obtain⟨s,h⟩:=(h.le t.le).lV;exact⟨s.1,s.2,h.aI⟩
theorem _root_.Go.X.au.dW(h:au w0 S0 R0 w F)(b X pre s1 s2 v)[t:Take (af b (pre++.sl s1::aY s2::mA X)^aS s1 KI v.1^aS s2 KI v.2) F G]:au w0 S0 R0 w (Ij.kv b X pre v^G):=
 au.tQ (f:=λs:Sl×Sl=>af b (pre++.sl s.1::aY s.2::mA X)^aS s.1 KI v.1^aS s.2 KI v.2) (s1,s2) (h.le t.le)
theorem Yk(X pre x y):Ks.un [.sl] (((pre++Lf.sl x::Lf.sl y::mA X).drop pre.length).take 1)=some x:=by rw[DB];rfl
theorem Yl(X pre x y):Ks.un [.sl] (((pre++Lf.sl x::Lf.sl y::mA X).drop (pre.length+1)).take 1)=some y:=by rw[Al,FE,Cb (by omega)];rfl
theorem aap(X pre x y):((pre++Lf.sl x::Lf.sl y::mA X).drop (pre.length+1)).take 1=[Lf.sl y]:=by rw[Al,FE,Cb (by omega)];rfl
theorem Sd(X pre x y z)(h:o≤pre.length+1):Nat.ble (o+[Lf.sl z].length) (pre++Lf.sl x::Lf.sl y::mA X).length=true:=iY (by simp;omega)
theorem Tg(X pre x y z):dE (pre++Lf.sl x::Lf.sl y::mA X) pre.length [Lf.sl z]=pre++Lf.sl z::Lf.sl y::mA X:=by
 rw[D7 (by simp only[gp,gg,kb];omega),fa,DE,Al,mc,FE,Cb (by omega)];simp
theorem Th(X pre x y z):dE (pre++Lf.sl x::Lf.sl y::mA X) (pre.length+1) [Lf.sl z]=pre++Lf.sl x::Lf.sl z::mA X:=by
 rw[D7 (by simp only[gp,gg,kb];omega),fa,List.take_append,FE,jZ (by omega),show pre.length+1+[Lf.sl z].length=pre.length+2 from rfl,Al,FE,Cb (by omega)];simp
theorem xT(b X pre o)(ho:pre.length=o)(v)(s:Int)(hl:v.1.length+v.2.length≤4294967296):bu (Qv (some ⟨b,o⟩) s) (kv b X pre v) (λr=>bs (r=bX v s) (kv b X pre v)):=
 bC λw S R h=>by
  subst ho;obtain⟨s1,s2,h⟩:=(h.le (aJ _)).kv b X pre v;refine ac (ah h (Yk X pre _ _) ?_);refine bP (A:=bg) (Q:=aV s1 KI v.1) (Jy.zz s1 s v.1 (by omega)) h λr w h=>?_;obtain⟨hr,h⟩:=h.aP;refine ae (λc=>?_) λc=>?_
  ·exact au.aH (by rw[bX,aG (hr.1 c)]) (h.dW b X pre s1 s2 v).br
  ·have c1:¬s∈v.1:=λhm=>by have:=hr.2 hm;rw[c]at this;cases this
   refine ac (ah h (Yl X pre _ _) ?_);refine bP (A:=bg) (Q:=aV s2 KI v.2) (Jy.zz s2 s v.2 (by omega)) h λr w h=>?_;obtain⟨hr,h⟩:=h.aP;refine ae (λc=>?_) λc=>?_
   ·exact au.aH (by rw[bX,ay c1,aG (hr.1 c)]) (h.dW b X pre s1 s2 v).br
   ·have c2:¬s∈v.2:=λhm=>by have:=hr.2 hm;rw[c]at this;cases this
    exact au.aH (by rw[bX,ay c1,ay c2]) (h.dW b X pre s1 s2 v).br
theorem zR(b X pre o)(ho:pre.length=o)(v)(s:Int)(f)(hl:v.1.length+v.2.length≤4294967295):
  bu (L9 (some ⟨b,o⟩) s f) (kv b X pre v) (λr=>bs (r=(kH v s f).1) (kv b X pre (kH v s f).2)):=
 bC λw S R h=>by
  subst ho;refine ae (λc=>?_) λc=>?_
  ·have c:s<0∨8≤s:=cC;rw[kH,aG c];exact au.aH rfl h
  ·have c:¬(s<0∨8≤s):=(by simp at c;omega);rw[kH,ay c];refine ar (xT b X pre _ rfl v s (by omega)) (h.le (aJ _)) λr w h=>?_;obtain⟨hr,h⟩:=h.aP;refine ae (λc2=>?_) λc2=>?_
   ·rw[aG (by rw[←hr];simpa using c2)];exact au.aH rfl h.br
   ·rw[ay (by rw[←hr];simpa using c2)];obtain⟨s1,s2,h⟩:=h.kv b X pre v;refine ae (λc3=>?_) λc3=>?_
    ·rw[aG c3];refine ac (ah h (Yk X pre _ _) ?_);have h:=h.nil KI;refine dF (s:=⟨none,0,0⟩) (x:=s1) h rfl (by simp;omega) λs4 w _ h=>?_;have h:=h.eN (s:=s4) (K:=KI) (pr _);refine aD h λn w h=>?_;have h:=h.co n KI [s] rfl (by simp);refine dF (s:=s4) (x:=⟨some ⟨n,0⟩,1,1⟩) h rfl (by simp;omega) λs' w _ h=>?_;refine ac (aA h b (pre++.sl s'::aY s2::mA X) rfl (Sd X pre _ _ _ (uX _)) (Tg X pre _ _ _) λw h=>?_);exact au.aH rfl (h.dW b X pre s' s2 (v.1++[s],v.2)).br
    ·have c3:f=false:=c3;rw[c3,ay (by simp)];refine ac (ah h (Yl X pre _ _) ?_);have h:=h.nil KI;refine dF (s:=⟨none,0,0⟩) (x:=s2) h rfl (by simp;omega) λs4 w _ h=>?_;have h:=h.eN (s:=s4) (K:=KI) (pr _);refine aD h λn w h=>?_;have h:=h.co n KI [s] rfl (by simp);refine dF (s:=s4) (x:=⟨some ⟨n,0⟩,1,1⟩) h rfl (by simp;omega) λs' w _ h=>?_;refine ac (aA h b (pre++.sl s1::aY s'::mA X) rfl (Sd X pre _ _ _ (eE _)) (Th X pre _ _ _) λw h=>?_);exact au.aH rfl (h.dW b X pre s1 s' (v.1,v.2++[s])).br
theorem G0(b X pre o)(ho:pre.length=o)(v):bu (T4 (some ⟨b,o⟩)) (kv b X pre v) (λr=>bs (r=cd v) (kv b X pre v)):=
 bC λw S R h=>by
  subst ho;obtain⟨s1,s2,h⟩:=(h.le (aJ _)).kv b X pre v;have hs1:=((h.take (aS s1 KI v.1)).rd (s:=s1)).2;have hs2:=((h.take (aS s2 KI v.2)).rd (s:=s2)).2;obtain⟨a,c⟩:=v;refine ac (ah h (Yk X pre _ _) ?_);refine ae (λc1=>?_) λc1=>?_
  ·have c1:0<a.length:=(by simp at c1;dsimp only at hs1;omega);refine ac (ah h (Yk X pre _ _) ?_);have h':=h.take (aS s1 KI a);refine bS h' (by omega) (by simpa using c1) ?_;refine dP h' s1 0 (bK c1) rfl ?_;refine au.aH ?_ (h.dW b X pre s1 s2 (a,c)).br;cases a with
   |nil=>simp at c1
   |cons x a=>rfl
  ·have c1:a=[]:=List.eq_nil_of_length_eq_zero (by simp at c1;dsimp only at hs1;omega);refine ac (ah h (Yl X pre _ _) ?_);refine ae (λc2=>?_) λc2=>?_
   ·have c2:0<c.length:=(by simp at c2;dsimp only at hs2;omega);refine ac (ah h (Yl X pre _ _) ?_);have h':=h.take (aS s2 KI c);refine bS h' (by omega) gK ?_;refine dP h' s2 0 (bK c2) rfl ?_;refine au.aH ?_ (h.dW b X pre s1 s2 (a,c)).br;rw[c1];cases c with
    |nil=>simp at c2
    |cons x a=>rfl
   ·have c2:c=[]:=List.eq_nil_of_length_eq_zero (by simp at c2;dsimp only at hs2;omega);refine au.aH ?_ (h.dW b X pre s1 s2 (a,c)).br;rw[c1,c2];rfl
theorem vT(b X pre o)(ho:pre.length=o)(v)(s:Int)(hl:v.1.length+v.2.length≤4294967296):
  bu (Qk (some ⟨b,o⟩) s) (kv b X pre v) (λr=>bs (r=(jH v s).1) (kv b X pre (jH v s).2)):=
 bC λw S R h=>by
  subst ho;refine ar (xT b X pre _ rfl v s hl) (h.le (aJ _)) λr w h=>?_;obtain⟨hr,h⟩:=h.aP;refine aM h λw h=>?_;obtain⟨s1,s2,h⟩:=h.kv b X pre v;refine ac (ac (ah h (Yk X pre _ _) (ah h (Yl X pre _ _) ?_)));refine bP (A:=bg) (Q:=aV s1 KI v.1) (ue s1 v.1 s (by omega)) h λr1 w h=>?_;refine aN h (aap X pre _ _) ?_;refine bP (A:=bg) (Q:=aV s2 KI v.2) (ue s2 v.2 s (by omega)) h λr2 w h=>?_;refine ac (aA h b (pre++.sl r1::aY s2::mA X) rfl (Sd X pre _ _ _ (uX _)) (Tg X pre _ _ _) λw h=>?_);refine ac (aA h b (pre++.sl r1::aY r2::mA X) rfl (Sd X pre _ _ _ (eE _)) (Th X pre _ _ _) λw h=>?_);refine au.aH ?_ (h.dW b X pre r1 r2 (v.1.filter (λx=>decide (x≠s)),v.2.filter (λx=>decide (x≠s)))).br;rw[hr];by_cases hp:bX v s=0<;>simp[jH,hp]
end Ij

namespace Jz
open bH bp fL Ij _root_.Go.X.Tree iU kR lP ff lL lN Ej Cu xI Jx F6 LC Lt PL SB
abbrev RF:=Ks.T KF
def gq(r:Nat→RF)(i:Nat)(x:RF):Nat→RF:=λj=>if j=i then x else r j
theorem da(r i x):gq r i x i=x:=by simp[gq]
theorem fR(r x)(h:j≠i):gq r i x j=r j:=by simp[gq,h]
def pO(t:Nat→Bool)(i:Nat)(x:Bool):Nat→Bool:=λj=>if j=i then x else t j
theorem wC(t i x):pO t i x i=x:=by simp[pO]
theorem D6(t x)(h:j≠i):pO t i x j=t j:=by simp[pO,h]
abbrev eB(X:Cx)(c:Cf)(r:Nat→RF)(t:Nat→Bool):List Lf:=[aB X.aj,aE (cQ c),aE (cF c),aE (cL c),aE (cW c),aB (cH c),aB (cR c),bc (cD c),aE (dZ c),aE (eU c),aE (r 0).1,aE (r 0).2.1,aE (r 0).2.2.1,aB (r 0).2.2.2.1,aB (r 0).2.2.2.2.1,aY (r 0).2.2.2.2.2,aE (r 1).1,aE (r 1).2.1,aE (r 1).2.2.1,aB (r 1).2.2.2.1,aB (r 1).2.2.2.2.1,aY (r 1).2.2.2.2.2,aE (r 2).1,aE (r 2).2.1,aE (r 2).2.2.1,aB (r 2).2.2.2.1,aB (r 2).2.2.2.2.1,aY (r 2).2.2.2.2.2,aE (r 3).1,aE (r 3).2.1,aE (r 3).2.2.1,aB (r 3).2.2.2.1,aB (r 3).2.2.2.2.1,aY (r 3).2.2.2.2.2,aE (r 4).1,aE (r 4).2.1,aE (r 4).2.2.1,aB (r 4).2.2.2.1,aB (r 4).2.2.2.2.1,aY (r 4).2.2.2.2.2,aE (r 5).1,aE (r 5).2.1,aE (r 5).2.2.1,aB (r 5).2.2.2.1,aB (r 5).2.2.2.2.1,aY (r 5).2.2.2.2.2,aE (r 6).1,aE (r 6).2.1,aE (r 6).2.2.1,aB (r 6).2.2.2.1,aB (r 6).2.2.2.2.1,aY (r 6).2.2.2.2.2,aE (r 7).1,aE (r 7).2.1,aE (r 7).2.2.1,aB (r 7).2.2.2.1,aB (r 7).2.2.2.2.1,aY (r 7).2.2.2.2.2,bc (t 0),bc (t 1),bc (t 2),bc (t 3),bc (t 4),bc (t 5),bc (t 6),bc (t 7)]
theorem FM(X c r t a b)(hi:i<8):Ks.un KF (((eB X c r t++Lf.sl a::Lf.sl b::mA X).drop (1+9+i*6)).take 6)=some (r i):=by
 have:i=0∨i=1∨i=2∨i=3∨i=4∨i=5∨i=6∨i=7:=by omega
 rcases this with rfl|rfl|rfl|rfl|rfl|rfl|rfl|rfl<;>rfl
theorem Wm(X c r t a b)(hi:i<8):((eB X c r t++Lf.sl a::Lf.sl b::mA X).drop (1+9+i*6)).take 6=Ks.mk KF (r i):=by
 have:i=0∨i=1∨i=2∨i=3∨i=4∨i=5∨i=6∨i=7:=by omega
 rcases this with rfl|rfl|rfl|rfl|rfl|rfl|rfl|rfl<;>rfl
theorem DQ(X c r t a b)(hi:i<8):Ks.un [.int .i64] (((eB X c r t++Lf.sl a::Lf.sl b::mA X).drop (1+9+i*6+1)).take 1)=some (r i).2.1:=by
 have:i=0∨i=1∨i=2∨i=3∨i=4∨i=5∨i=6∨i=7:=by omega
 rcases this with rfl|rfl|rfl|rfl|rfl|rfl|rfl|rfl<;>rfl
theorem DR(X c r t a b)(hi:i<8):Ks.un [.int .i64] (((eB X c r t++Lf.sl a::Lf.sl b::mA X).drop (1+9+i*6+2)).take 1)=some (r i).2.2.1:=by
 have:i=0∨i=1∨i=2∨i=3∨i=4∨i=5∨i=6∨i=7:=by omega
 rcases this with rfl|rfl|rfl|rfl|rfl|rfl|rfl|rfl<;>rfl
theorem OC(X c r t a b)(hi:i<8):Ks.un [.int .u64] (((eB X c r t++Lf.sl a::Lf.sl b::mA X).drop (1+9+i*6+4)).take 1)=some (r i).2.2.2.2.1:=by
 have:i=0∨i=1∨i=2∨i=3∨i=4∨i=5∨i=6∨i=7:=by omega
 rcases this with rfl|rfl|rfl|rfl|rfl|rfl|rfl|rfl<;>rfl
theorem sI(X c r t a b)(hi:i<8):Ks.un [.sl] (((eB X c r t++Lf.sl a::Lf.sl b::mA X).drop (1+9+i*6+5)).take 1)=some (r i).2.2.2.2.2:=by
 have:i=0∨i=1∨i=2∨i=3∨i=4∨i=5∨i=6∨i=7:=by omega
 rcases this with rfl|rfl|rfl|rfl|rfl|rfl|rfl|rfl<;>rfl
theorem RY(X c r t a b)(hi:i<8):((eB X c r t++Lf.sl a::Lf.sl b::mA X).drop (1+9+i*6+5)).take 1=[aY (r i).2.2.2.2.2]:=by
 have:i=0∨i=1∨i=2∨i=3∨i=4∨i=5∨i=6∨i=7:=by omega
 rcases this with rfl|rfl|rfl|rfl|rfl|rfl|rfl|rfl<;>rfl
theorem I9(X c r t a b)(hi:i<8):Ks.un [.bool] (((eB X c r t++Lf.sl a::Lf.sl b::mA X).drop (1+57+i*1)).take 1)=some (t i):=by
 have:i=0∨i=1∨i=2∨i=3∨i=4∨i=5∨i=6∨i=7:=by omega
 rcases this with rfl|rfl|rfl|rfl|rfl|rfl|rfl|rfl<;>rfl
theorem OE(X c r t a b)(hi:i<8)(x):dE (eB X c r t++Lf.sl a::Lf.sl b::mA X) (1+9+i*6) (Ks.mk KF x)=eB X c (gq r i x) t++Lf.sl a::Lf.sl b::mA X:=by
 have:i=0∨i=1∨i=2∨i=3∨i=4∨i=5∨i=6∨i=7:=by omega
 rcases this with rfl|rfl|rfl|rfl|rfl|rfl|rfl|rfl<;>rfl
theorem HU(X c r t a b)(hi:i<8)(x:Int):dE (eB X c r t++Lf.sl a::Lf.sl b::mA X) (1+9+i*6+1) [aE x]=eB X c (gq r i ((r i).1,x,(r i).2.2.1,(r i).2.2.2.1,(r i).2.2.2.2.1,(r i).2.2.2.2.2)) t++Lf.sl a::Lf.sl b::mA X:=by
 have:i=0∨i=1∨i=2∨i=3∨i=4∨i=5∨i=6∨i=7:=by omega
 rcases this with rfl|rfl|rfl|rfl|rfl|rfl|rfl|rfl<;>rfl
theorem OG(X c r t a b)(hi:i<8)(x:Int):dE (eB X c r t++Lf.sl a::Lf.sl b::mA X) (1+9+i*6+2) [aE x]=eB X c (gq r i ((r i).1,(r i).2.1,x,(r i).2.2.2.1,(r i).2.2.2.2.1,(r i).2.2.2.2.2)) t++Lf.sl a::Lf.sl b::mA X:=by
 have:i=0∨i=1∨i=2∨i=3∨i=4∨i=5∨i=6∨i=7:=by omega
 rcases this with rfl|rfl|rfl|rfl|rfl|rfl|rfl|rfl<;>rfl
theorem Wo(X c r t a b)(hi:i<8)(x:Int):dE (eB X c r t++Lf.sl a::Lf.sl b::mA X) (1+9+i*6+3) [aB x]=eB X c (gq r i ((r i).1,(r i).2.1,(r i).2.2.1,x,(r i).2.2.2.2.1,(r i).2.2.2.2.2)) t++Lf.sl a::Lf.sl b::mA X:=by
 have:i=0∨i=1∨i=2∨i=3∨i=4∨i=5∨i=6∨i=7:=by omega
 rcases this with rfl|rfl|rfl|rfl|rfl|rfl|rfl|rfl<;>rfl
theorem OH(X c r t a b)(hi:i<8)(x:Int):dE (eB X c r t++Lf.sl a::Lf.sl b::mA X) (1+9+i*6+4) [aB x]=eB X c (gq r i ((r i).1,(r i).2.1,(r i).2.2.1,(r i).2.2.2.1,x,(r i).2.2.2.2.2)) t++Lf.sl a::Lf.sl b::mA X:=by
 have:i=0∨i=1∨i=2∨i=3∨i=4∨i=5∨i=6∨i=7:=by omega
 rcases this with rfl|rfl|rfl|rfl|rfl|rfl|rfl|rfl<;>rfl
theorem OI(X c r t a b)(hi:i<8)(x):dE (eB X c r t++Lf.sl a::Lf.sl b::mA X) (1+9+i*6+5) [aY x]=eB X c (gq r i ((r i).1,(r i).2.1,(r i).2.2.1,(r i).2.2.2.1,(r i).2.2.2.2.1,x)) t++Lf.sl a::Lf.sl b::mA X:=by
 have:i=0∨i=1∨i=2∨i=3∨i=4∨i=5∨i=6∨i=7:=by omega
 rcases this with rfl|rfl|rfl|rfl|rfl|rfl|rfl|rfl<;>rfl
theorem HV(X c r t a b)(hi:i<8)(x):dE (eB X c r t++Lf.sl a::Lf.sl b::mA X) (1+57+i*1) [bc x]=eB X c r (pO t i x)++Lf.sl a::Lf.sl b::mA X:=by
 have:i=0∨i=1∨i=2∨i=3∨i=4∨i=5∨i=6∨i=7:=by omega
 rcases this with rfl|rfl|rfl|rfl|rfl|rfl|rfl|rfl<;>rfl
def fT(v:Qm)(j:Nat):List Sg:=match v.fl j with
 |none=>[]
 |some f=>f.sg
abbrev zF:RF:=(0,0,0,0,0,⟨none,0,0⟩)
def yl(v:Qm)(j:Nat)(s:Sl):RF:=match v.fl j with
 |none=>zF
 |some f=>((j:Int),f.cr,fx v j,f.nx,f.si,s)
abbrev mg(x:RF):Sl:=x.2.2.2.2.2
structure Rq(v:Qm)(r:Nat→RF)(t:Nat→Bool):Prop where
 t:∀j,j<8→t j=(v.fl j).isSome
 r:∀j,j<8→r j=yl v j (mg (r j))
abbrev rJ(r:Nat→RF)(xs:Nat→List Sg):Nat→SP:=λj=>aS (mg (r j)) KS (xs j)
def cM(b:Nat)(X:Cx)(v:Qm):SP:=xQ (λx:(Nat→RF)×(Nat→Bool)=>Rq v x.1 x.2) (λx=>kv b X (eB X v.c x.1 x.2) v.lv^eD (rJ x.1 (fT v)) 8)
instance(b:Nat)(X:Cx)(v:Qm):nl (cM b X v):=by unfold cM;infer_instance
section
variable {w0 w:World} {S0 R0:Nat→Prop} {F G:SP}
theorem _root_.Go.X.au.cM(h:au w0 S0 R0 w F)(b X v)[tk:Take (Jz.cM b X v) F G]:∃r t,Rq v r t∧au w0 S0 R0 w (kv b X (eB X v.c r t) v.lv^eD (rJ r (fT v)) 8^G):=by
 obtain⟨x,hx,h⟩:=(h.le tk.le).uQ;exact⟨x.1,x.2,hx,h.aI⟩
theorem _root_.Go.X.au.gn(h:au w0 S0 R0 w F)(b:Nat)(X:Cx)(v:Qm)(r:Nat→RF)(t:Nat→Bool)(hr:Rq v r t)[tk:Take (kv b X (eB X v.c r t) v.lv^eD (rJ r (fT v)) 8) F G]:au w0 S0 R0 w (Jz.cM b X v^G):=
 (h.le tk.le).rA (f:=λx:(Nat→RF)×(Nat→Bool)=>kv b X (eB X v.c x.1 x.2) v.lv^eD (rJ x.1 (fT v)) 8) (φ:=λx=>Rq v x.1 x.2) (r,t) hr
theorem _root_.Go.X.au.H2(h:au w0 S0 R0 w F)(r xs)(hi:i<8)[tk:Take (eD (rJ r xs) 8) F G]:au w0 S0 R0 w (aS (mg (r i)) KS (xs i)^eD (tU (rJ r xs) i) 8^G):=
 ((h.le tk.le).le (bi (oW (rJ r xs) hi) Le.rfl)).le (bZ _ _ _)
theorem _root_.Go.X.au.Lg(h:au w0 S0 R0 w F)(r r' xs ys)(hi:i<8)(hr:∀j,j≠i→r' j=r j)(hx:∀j,j≠i→ys j=xs j)[tk:Take (aS (mg (r' i)) KS (ys i)^eD (tU (rJ r xs) i) 8) F G]:au w0 S0 R0 w (eD (rJ r' ys) 8^G):=by
 have e:eD (tU (rJ r xs) i) 8=eD (tU (rJ r' ys) i) 8:=im 8 λj _=>by
  unfold tU;split
  ·rfl
  ·rename_i e;show aS _ KS _=aS _ KS _;rw[hr j e,hx j e]
 have h:=h.le tk.le;rw[e]at h;exact h.le (bi (rX (rJ r' ys) hi) Le.rfl)
end
theorem Rq.none{v:Qm}{r:Nat→RF}{t:Nat→Bool}(h:Rq v r t){i:Nat}(hi:i<8)(hf:v.fl i=none):t i=false∧r i=zF∧fT v i=[]:=by
 have h1:=h.t i hi;have h2:=h.r i hi;unfold yl at h2;rw[hf]at h1 h2;exact⟨h1,h2,by unfold fT;rw[hf]⟩
theorem Rq.some{v:Qm}{r:Nat→RF}{t:Nat→Bool}(h:Rq v r t){i:Nat}(hi:i<8){f:Fl}(hf:v.fl i=some f):t i=true∧r i=((i:Int),f.cr,fx v i,f.nx,f.si,mg (r i))∧fT v i=f.sg:=by
 have h1:=h.t i hi;have h2:=h.r i hi;unfold yl at h2;rw[hf]at h1 h2;exact⟨h1,h2,by unfold fT;rw[hf]⟩
def lp(v:Qm):Int:=match v.ks with
 |[]=>-1
 |k::_=>k.2
def yJ(v:Qm)(j:Nat):Int:=match v.fl j with
 |none=>0
 |some f=>du f
def F9(v:Qm)(k:Nat)(x:Int):Prop:=(x=-1∧∀j,j<k→fx v j≠3)∨∃m:Nat,x=(m:Int)∧m<k∧fx v m=3∧∀j,j<k→fx v j=3→yJ v m<yJ v j∨(yJ v m=yJ v j∧m≤j)
theorem Gj(hv:jv v){x:Int}(h:F9 v 8 x):x=lp v:=by
 have hmem:∀k∈v.ks,∃i:Nat,i<8∧fx v i=3∧k=(yJ v i,(i:Int)):=λk hk=>by
  obtain⟨i,f,h1,h2,h3,h4⟩:=(hv.ks k).1 hk;exact⟨i,(hv.fl i f h1).1,vX.2 ⟨h3,f,h1,h2⟩,by rw[h4];unfold yJ;rw[h1]⟩
 unfold lp;rcases h with⟨e,h⟩|⟨m,e,hm,hp,h⟩
 ·cases hk:v.ks with
  |nil=>exact e
  |cons k l=>
   obtain⟨i,hi,hp,_⟩:=hmem k (by rw[hk];simp);exact absurd hp (h i hi)
 ·obtain⟨h3,f,hf,hs⟩:=vX.1 hp;have hin:(yJ v m,(m:Int))∈v.ks:=(hv.ks _).2 ⟨m,f,hf,hs,h3,by unfold yJ;rw[hf]⟩;cases hk:v.ks with
  |nil=>rw[hk]at hin;cases hin
  |cons k l=>
   obtain⟨i,hi,hpi,he⟩:=hmem k (by rw[hk];simp);have hb:=h i hi hpi;rw[hk]at hin;rcases ec.1 hin with e2|hin
   ·rw[e,←e2]
   ·have hsr:=hv.xA;rw[hk]at hsr;have:=(uc.1 hsr).1 _ hin;rw[qK,he]at this;have h4:yJ v i<yJ v m∨(yJ v i=yJ v m∧(i:Int)<(m:Int)):=this;omega
theorem qd(b:Nat)(X:Cx)(v:Qm)(hv:jv v)(r:Nat→RF)(t:Nat→Bool)(hq:Rq v r t):bu (L3 (some ⟨b,1⟩)) (kv b X (eB X v.c r t) v.lv^eD (rJ r (fT v)) 8) (λx=>bs (x=lp v) (kv b X (eB X v.c r t) v.lv^eD (rJ r (fT v)) 8)):=
 bC λw0 S R h=>by
  refine cS (λ_:Int×Int=>kv b X (eB X v.c r t) v.lv^eD (rJ r (fT v)) 8) (λy:Int×Int=>(0≤y.2∧y.2≤8)∧F9 v y.2.toNat y.1) (λy:Int×Int=>(8-y.2).toNat) h ⟨by decide,.inl ⟨rfl,λj hj=>absurd hj (by simp)⟩⟩ ?_;rintro(y0:Int×Int) w ⟨hk,hb⟩ h;obtain⟨x,k⟩:=y0;dsimp only at hk hb;have hwk:i64.wrap (k+1)=k+1:=gi;refine ae (λc=>?_) λc=>?_
  ·have c8:k<8:=cC;clear c;obtain⟨j,hj⟩:∃j:Nat,k=(j:Int):=⟨k.toNat,by omega⟩;have hj8:j<8:=(by omega);have hj1:(k+1).toNat=j+1:=(by omega);rw[hj]at hb hwk hj1⊢;rw[eX]at hb;refine aQ h (λ_=>kv b X (eB X v.c r t) v.lv^eD (rJ r (fT v)) 8) (λy:Bool=>(y=true→F9 v (j+1) (j:Int))∧(y=false→F9 v (j+1) x)) (λ(y:Bool) w hy h=>?_) ?_
   ·refine ae (λc=>?_) λc=>?_
    ·rw[hwk];exact⟨⟨⟨by show 0≤(j:Int)+1∧(j:Int)+1≤8;omega,by show F9 v ((j:Int)+1).toNat (j:Int);rw[hj1];exact hy.1 c⟩,h⟩,by show(8-((j:Int)+1)).toNat<(8-(j:Int)).toNat;omega⟩
    ·rw[hwk];exact⟨⟨⟨by show 0≤(j:Int)+1∧(j:Int)+1≤8;omega,by show F9 v ((j:Int)+1).toNat x;rw[hj1];exact hy.2 c⟩,h⟩,by show(8-((j:Int)+1)).toNat<(8-(j:Int)).toNat;omega⟩
   ·have skip:fx v j≠3→F9 v (j+1) x:=λhp=>by
     rcases hb with⟨e,h⟩|⟨m,e,hm,hpm,h⟩
     ·exact .inl ⟨e,λq hq=>by
       by_cases e2:q=j
       ·rw[e2];exact hp
       ·exact h q (by omega)⟩
     ·exact .inr ⟨m,e,by omega,hpm,λq hq hpq=>by
       by_cases e2:q=j
       ·rw[e2]at hpq;exact absurd hpq hp
       ·exact h q (by omega) hpq⟩
    obtain⟨s1,s2,h⟩:=h.kv b X (eB X v.c r t) v.lv;refine aM h λw h=>ac ⟨by omega,?_⟩;rw[eX];refine ah h (I9 X v.c r t s1 s2 hj8) ?_;cases hf:v.fl j with
    |none=>
     rw[(hq.none hj8 hf).1];refine ae (λc=>(by cases c)) λ_=>⟨⟨λe=>(by cases e),λ_=>skip λe=>?_⟩,(h.dW b X (eB X v.c r t) s1 s2 v.lv).aI⟩;obtain⟨_,f,hf2,_⟩:=vX.1 e;rw[hf]at hf2;cases hf2
    |some f=>
     obtain⟨q1,q2,q3⟩:=hq.some hj8 hf;rw[q1];refine ae (λ_=>?_) λc=>(by cases c);refine ac ⟨by omega,?_⟩;refine ah h (DR X v.c r t s1 s2 hj8) ?_;have e2:(r j).2.2.1=fx v j:=by rw[q2]
     rw[e2];refine ae (λc=>?_) λc=>?_
     ·have hp:fx v j=3:=cC;obtain⟨_,f',hf',hs⟩:=vX.1 hp;rw[hf]at hf';cases hf';refine ae (λc2=>?_) λc2=>?_
      ·have c2:x<0:=gK;refine⟨⟨λ_=>?_,λe=>(by cases e)⟩,(h.dW b X (eB X v.c r t) s1 s2 v.lv).aI⟩;rcases hb with⟨e,h⟩|⟨m,e,_⟩
       ·exact .inr ⟨j,rfl,by omega,hp,λq hq hpq=>by
         by_cases e2:q=j
         ·rw[e2];exact .inr ⟨rfl,eE _⟩
         ·exact absurd hpq (h q (by omega))⟩
       ·omega
      ·have c2:¬x<0:=gK;obtain⟨m,e,hm,hpm,hbm⟩:∃m:Nat,x=(m:Int)∧m<j∧fx v m=3∧∀q,q<j→fx v q=3→yJ v m<yJ v q∨(yJ v m=yJ v q∧m≤q):=by
        rcases hb with⟨e,_⟩|h
        ·omega
        ·exact h
       have hm8:m<8:=(by omega);obtain⟨_,g,hg,hgs⟩:=vX.1 hpm;obtain⟨p1,p2,p3⟩:=hq.some hm8 hg;have hmx:x.toNat=m:=(by omega);refine ac (ac ⟨by omega,by omega,?_⟩);dsimp only;rw[hmx];refine ah h (FM X v.c r t s1 s2 hj8) (ah h (FM X v.c r t s1 s2 hm8) ?_);cases hss:f.sg with
       |nil=>exact absurd hss hs
       |cons a1 l1=>
       cases hgg:g.sg with
       |nil=>exact absurd hgg hgs
       |cons a2 l2=>
       rw[hss]at q3;rw[hgg]at p3;have h:=h.H2 r (fT v) hj8;rw[q3]at h;refine bP (rT (r j) a1 l1) h λr13 w h=>?_;obtain⟨hr13,h⟩:=h.aP;rw[hr13];have h:=h.Lg r r (fT v) (fT v) hj8 (λ_ _=>rfl) (λ_ _=>rfl) (tk:=by rw[q3];infer_instance);refine aN h (Wm X v.c r t s1 s2 hm8) ?_;have h:=h.H2 r (fT v) hm8;rw[p3]at h;refine bP (rT (r m) a2 l2) h λr14 w h=>?_;obtain⟨hr14,h⟩:=h.aP;rw[hr14];have h:=h.Lg r r (fT v) (fT v) hm8 (λ_ _=>rfl) (λ_ _=>rfl) (tk:=by rw[p3];infer_instance);have t1:(if ve a1>(r j).2.2.2.1 then ve a1 else(r j).2.2.2.1)=yJ v j:=by
        have:(r j).2.2.2.1=f.nx:=(by rw[q2]);rw[this];unfold yJ du;rw[hf];simp only;rw[hss]
       have t2:(if ve a2>(r m).2.2.2.1 then ve a2 else(r m).2.2.2.1)=yJ v m:=by
        have:(r m).2.2.2.1=g.nx:=(by rw[p2]);rw[this];unfold yJ du;rw[hg];simp only;rw[hgg]
       rw[t1,t2];refine⟨⟨λc=>?_,λc=>?_⟩,(h.dW b X (eB X v.c r t) s1 s2 v.lv).aI⟩
       ·have c:yJ v j<yJ v m:=bV c;refine .inr ⟨j,rfl,by omega,hp,λq hq hpq=>?_⟩;by_cases e2:q=j
        ·rw[e2];exact .inr ⟨rfl,eE _⟩
        ·have:=hbm q (by omega) hpq;left;omega
       ·have c:¬yJ v j<yJ v m:=bY c;refine .inr ⟨m,e,by omega,hpm,λq hq hpq=>?_⟩;by_cases e2:q=j
        ·rw[e2];omega
        ·exact hbm q (by omega) hpq
     ·have hp:fx v j≠3:=cC;exact⟨⟨λe=>(by cases e),λ_=>skip hp⟩,(h.dW b X (eB X v.c r t) s1 s2 v.lv).aI⟩
  ·have c:¬k<8:=cC;have e:k.toNat=8:=(by omega);rw[e]at hb;exact au.aH (Gj hv hb) h
end Jz

namespace PM
open bH bp fL Ij _root_.Go.X.Tree iU kR lP ff lL lN Ej Cu xI Jx F6 LC Lt PL SB Jz
def qP(lv:LV)(i p:Int):LV:=if p=2 then((dM lv i).1,(dM lv i).2++[i])else dM lv i
abbrev xe(x:RF)(p:Int):RF:=(x.1,x.2.1,p,x.2.2.2.1,x.2.2.2.2.1,x.2.2.2.2.2)
theorem vY(b:Nat)(X:Cx)(c:Cf)(r:Nat→RF)(t:Nat→Bool)(lv:LV)(hv:wF lv)(i:Nat)(hi:i<8)(p:Int)(hp:p≠1):bu (Gp (some ⟨b,1⟩) (i:Int) p) (kv b X (eB X c r t) lv) (λ_=>kv b X (eB X c (gq r i (xe (r i) p)) t) (qP lv (i:Int) p)):=
 bC λw0 S R h=>by
  have hl:=hv.GH;have ho:=hv.out (i:Int);have hol:=ho.GH;refine ac (ar (vT b X (eB X c r t) (1+65) rfl lv (i:Int) (by omega)) (h.le (aJ _)) λ_ w h=>?_);obtain⟨_,h⟩:=h.aP;rw[show(jH lv (i:Int)).2=dM lv (i:Int)from rfl]at h;obtain⟨s1,s2,h⟩:=h.kv b X (eB X c r t) (dM lv (i:Int));refine ac ⟨by omega,?_⟩;rw[eX];refine aA h b (eB X c (gq r i (xe (r i) p)) t++.sl s1::aY s2::mA X) rfl (iY (by show 1+9+i*6+2+1≤140;omega)) (OG X c r t s1 s2 hi p) λw h=>?_;have h:=h.dW b X (eB X c (gq r i (xe (r i) p)) t) s1 s2 (dM lv (i:Int));have e1:(p==(1:Int))=false:=by simpa using hp
  refine ae (λc1=>?_) λc1=>?_
  ·have c1:p=2:=by
    rw[e1,Ao]at c1;simpa using c1
   rw[e1];refine ac (ar (zR b X (eB X c (gq r i (xe (r i) p)) t) (1+65) rfl (dM lv (i:Int)) (i:Int) false (by omega)) h λ_ w h=>?_);obtain⟨_,h⟩:=h.aP;have hpl:bX (dM lv (i:Int)) (i:Int)=0:=ma.2 (xd lv (i:Int));have e:(kH (dM lv (i:Int)) (i:Int) false).2=qP lv (i:Int) p:=by
    rw[kH,ay (by omega),ay (by rw[hpl];simp),ay (by simp)];unfold qP;rw[aG c1]
   rw[e]at h;exact h.aI
  ·have c1:¬p=2:=by
    rw[e1,Ao]at c1;simpa using c1
   have e:qP lv (i:Int) p=dM lv (i:Int):=(by unfold qP;rw[ay c1]);rw[e];exact h.aI
theorem DN(b X v)(hv:jv v)(aj:Int):bu (UG (some ⟨b,1⟩) aj) (cM b X v) (λ_=>cM b X (bM v aj)):=
 bC λw0 S R h=>by
  have h:au w0 S R w0 (cM b X (cm v aj (0:Int).toNat)):=by
   have e:cm v aj (0:Int).toNat=v:=(by unfold cm;simp);rw[e];exact h
  refine cS (λy:Int=>cM b X (cm v aj y.toNat)) (λy:Int=>0≤y∧y≤8) (λy:Int=>(8-y).toNat) h ⟨by decide,by decide⟩ ?_;rintro(k:Int) w hk h;have hwk:i64.wrap (k+1)=k+1:=gi;refine ae (λc=>?_) λc=>?_
  ·have c8:k<8:=cC;clear c;obtain⟨j,hj⟩:∃j:Nat,k=(j:Int):=⟨k.toNat,by omega⟩;have hj8:j<8:=(by omega);have hj1:(k+1).toNat=j+1:=(by omega);rw[hj]at h hwk hj1⊢;rw[eX]at h;obtain⟨r,t,hq,h⟩:=h.cM b X (cm v aj j);have hfj:(cm v aj j).fl j=v.fl j:=(by unfold cm;simp);have hid:=zc v aj j;have hpl:fx (cm v aj j) j=fx v j:=(by unfold fx;rw[hfj]);have up:idle v j 3000000000 aj=false→cm v aj (j+1)=cm v aj j:=λe=>by
    unfold cm
    congr 1
    funext q
    have:(q<j+1∧idle v q 3000000000 aj=true)↔(q<j∧idle v q 3000000000 aj=true):=⟨λh=>⟨by
     have:q≠j:=λe2=>by have:=h.2;rw[e2,e]at this;cases this
     omega,h.2⟩,λh=>⟨by omega,h.2⟩⟩
    by_cases h:q<j∧idle v q 3000000000 aj=true
    ·rw[aG h,aG (this.2 h)]
    ·rw[ay h,ay (λx=>h (this.1 x))]
   refine aQ h (λ_=>kv b X (eB X v.c r t) v.lv^eD (rJ r (fT (cm v aj j))) 8) (λy:Bool=>y=idle v j 3000000000 aj) (λ(y:Bool) w hy h=>?_) ?_
   ·rw[hy];refine ae (λc=>?_) λc=>?_
    ·obtain⟨f,hf,hs,hnl⟩:=qg c;obtain⟨s1,s2,h⟩:=h.kv b X (eB X v.c r t) v.lv;refine aM h λw h=>ac (ac ⟨by omega,?_⟩);rw[eX];refine aA h b (eB X v.c r (pO t j false)++.sl s1::aY s2::mA X) rfl (iY (by show 1+57+j*1+1≤140;omega)) (HV X v.c r t s1 s2 hj8 false) λw h=>⟨by omega,?_⟩;refine aA h b (eB X v.c (gq r j zF) (pO t j false)++.sl s1::aY s2::mA X) rfl (iY (by show 1+9+j*6+6≤140;omega)) (OE X v.c r (pO t j false) s1 s2 hj8 zF) λw h=>?_;have h:=h.dW b X (eB X v.c (gq r j zF) (pO t j false)) s1 s2 v.lv;have h:=h.H2 r (fT (cm v aj j)) hj8;have h:=h.nil KS;have hfn:(cm v aj (j+1)).fl j=none:=by unfold cm;exact aG ⟨by omega,c⟩
     have hfo:∀q,q≠j→(cm v aj (j+1)).fl q=(cm v aj j).fl q:=λq e=>by
      unfold cm;have:(q<j+1∧idle v q 3000000000 aj=true)↔(q<j∧idle v q 3000000000 aj=true):=⟨λh=>⟨by omega,h.2⟩,λh=>⟨by omega,h.2⟩⟩;simp only;by_cases h:q<j∧idle v q 3000000000 aj=true
      ·rw[aG h,aG (this.2 h)]
      ·rw[ay h,ay (λx=>h (this.1 x))]
     have hsn:fT (cm v aj (j+1)) j=[]:=(by unfold fT;rw[hfn]);have h:=h.Lg r (gq r j zF) (fT (cm v aj j)) (fT (cm v aj (j+1))) hj8 (λq e=>fR _ _ e) (λq e=>by unfold fT;rw[hfo q e]) (tk:=by rw[hsn,da];infer_instance);have hq2:Rq (cm v aj (j+1)) (gq r j zF) (pO t j false):=⟨λq hq8=>by
      by_cases e:q=j
      ·rw[e,wC,hfn];rfl
      ·rw[D6 _ _ e,hfo q e];exact hq.t q hq8,λq hq8=>by
      by_cases e:q=j
      ·rw[e,da];unfold yl;rw[hfn]
      ·rw[fR _ _ e];have:=hq.r q hq8;unfold yl at this⊢;rw[hfo q e];have hp2:fx (cm v aj (j+1)) q=fx (cm v aj j) q:=by unfold fx;rw[hfo q e]
       rw[hp2];exact this⟩
     rw[hwk];refine⟨⟨by omega,?_⟩,by omega⟩;rw[hj1];exact(h.gn b X (cm v aj (j+1)) (gq r j zF) (pO t j false) hq2).aI
    ·rw[hwk];refine⟨⟨by omega,?_⟩,by omega⟩;rw[hj1,up c];exact(h.gn b X (cm v aj j) r t hq).aI
   ·obtain⟨s1,s2,h⟩:=h.kv b X (eB X v.c r t) v.lv;refine ac ⟨by omega,?_⟩;rw[eX];refine ah h (I9 X v.c r t s1 s2 hj8) ?_;cases hf:v.fl j with
    |none=>
     rw[(hq.none hj8 (hfj.trans hf)).1];refine ae (λc=>(by cases c)) λ_=>⟨?_,(h.dW b X (eB X v.c r t) s1 s2 v.lv).aI⟩;unfold idle;rw[hf]
    |some f=>
     obtain⟨q1,q2,q3⟩:=hq.some hj8 (hfj.trans hf);rw[q1];refine ae (λ_=>?_) λc=>(by cases c);refine ac ⟨by omega,ah h (DR X v.c r t s1 s2 hj8) ?_⟩;have e2:(r j).2.2.1=fx v j:=by rw[q2,hpl]
     rw[e2];refine ae (λc=>?_) λc=>?_
     ·have hp:fx v j=0:=cC;refine ac ⟨by omega,ah h (OC X v.c r t s1 s2 hj8) ?_⟩;have e4:(r j).2.2.2.2.1=f.si:=(by rw[q2]);rw[e4];refine ar (fP f.si 3000000000 (hv.fl j f hf).2.si (by unfold U;omega)) h λx w h=>?_;obtain⟨hx,h⟩:=h.aP;rw[hx];refine⟨?_,(h.dW b X (eB X v.c r t) s1 s2 v.lv).aI⟩;unfold idle;rw[hf];simp[hp]
     ·have hp:¬fx v j=0:=cC;refine⟨?_,(h.dW b X (eB X v.c r t) s1 s2 v.lv).aI⟩;unfold idle;rw[hf];simp[hp]
  ·have c:¬k<8:=cC;have e:k.toNat=8:=(by omega);rw[e]at h;obtain⟨r,t,hq,h⟩:=h.cM b X (cm v aj 8);have hfo:∀q,q<8→(bM v aj).fl q=(cm v aj 8).fl q:=λq hq=>by
    show(if _ then _ else _)=(if _ then _ else _);by_cases h:idle v q 3000000000 aj=true
    ·rw[aG h,aG ⟨hq,h⟩]
    ·rw[ay h,ay (λx=>h x.2)]
   have hq2:Rq (bM v aj) r t:=⟨λq hq8=>by rw[hfo q hq8];exact hq.t q hq8,λq hq8=>by
    have:=hq.r q hq8;unfold yl at this⊢;rw[hfo q hq8];have hp2:fx (bM v aj) q=fx (cm v aj 8) q:=(by unfold fx;rw[hfo q hq8]);rw[hp2];exact this⟩
   have e2:eD (rJ r (fT (cm v aj 8))) 8=eD (rJ r (fT (bM v aj))) 8:=im 8 λq hq8=>by
    show aS _ KS (fT _ q)=aS _ KS (fT _ q);unfold fT;rw[hfo q hq8]
   rw[e2]at h;exact(h.gn b X (bM v aj) r t hq2).aI
theorem Oz(b:Nat)(X:Cx)(v:Qm)(hv:jv v)(r:Nat→RF)(t:Nat→Bool)(hq:Rq v r t):bu (UH (some ⟨b,1⟩)) (kv b X (eB X v.c r t) v.lv^eD (rJ r (fT v)) 8) (λx=>bs (x=v.n) (kv b X (eB X v.c r t) v.lv^eD (rJ r (fT v)) 8)):=
 bC λw0 S R h=>by
  refine cS (λ_:Int×Int=>kv b X (eB X v.c r t) v.lv^eD (rJ r (fT v)) 8) (λy:Int×Int=>(0≤y.2∧y.2≤8)∧y.1=F1 v.fl y.2.toNat∧y.1≤512*y.2) (λy:Int×Int=>(8-y.2).toNat) h ⟨by decide,rfl,by decide⟩ ?_;rintro(y0:Int×Int) w ⟨hk,hb,hb2⟩ h;obtain⟨x,k⟩:=y0;dsimp only at hk hb hb2;have hwk:i64.wrap (k+1)=k+1:=gi;have hx0:0≤x:=by rw[hb];exact D0 _ _
  refine ae (λc=>?_) λc=>?_
  ·have c8:k<8:=cC;clear c;obtain⟨j,hj⟩:∃j:Nat,k=(j:Int):=⟨k.toNat,by omega⟩;have hj8:j<8:=(by omega);have hj1:(k+1).toNat=j+1:=(by omega);rw[hj]at hb hwk hj1 hb2⊢;rw[eX]at hb;obtain⟨s1,s2,h⟩:=h.kv b X (eB X v.c r t) v.lv;refine ac ⟨by omega,?_⟩;rw[eX];refine ah h (sI X v.c r t s1 s2 hj8) ?_;have h:=h.H2 r (fT v) hj8;have hsl:=(h.rd (s:=mg (r j))).2;have h:=h.Lg r r (fT v) (fT v) hj8 (λ_ _=>rfl) (λ_ _=>rfl);have hcn:(((mg (r j)).len:Nat):Int)=yf (v.fl j)∧yf (v.fl j)≤512:=by
    rw[hsl];unfold fT;cases hf:v.fl j with
    |none=>exact⟨rfl,by decide⟩
    |some f=>
     have:=(hv.len hf).2;exact⟨rfl,by show((f.sg.length:Nat):Int)≤512;omega⟩
   have hwx:i64.wrap (x+(((mg (r j)).len:Nat):Int))=x+yf (v.fl j):=(by rw[hcn.1];exact wi (by have:=Gw (v.fl j);omega) (by omega));rw[hwk];rw[show i64.wrap ((x,(j:Int)).1+(((r j).2.2.2.2.2.len:Nat):Int))=x+yf (v.fl j)from hwx];refine⟨⟨⟨by show 0≤(j:Int)+1∧(j:Int)+1≤8;omega,?_,by show x+yf (v.fl j)≤512*((j:Int)+1);omega⟩,(h.dW b X (eB X v.c r t) s1 s2 v.lv).aI⟩,by show(8-((j:Int)+1)).toNat<(8-(j:Int)).toNat;omega⟩;show x+yf (v.fl j)=F1 v.fl ((j:Int)+1).toNat;rw[hj1,hb];rfl
  ·have c:¬k<8:=cC;have e:k.toNat=8:=(by omega);rw[e]at hb;exact au.aH (hb.trans hv.n.symm) h
theorem Om(b X v)(hv:jv v):bu (YU (some ⟨b,1⟩)) (cM b X v) (λx=>bs (x=((nW v.ks).1.1,(nW v.ks).2)) (cM b X v)):=
 bC λw0 S R h=>by
  obtain⟨r,t,hq,h⟩:=(h.le (aJ _)).cM b X v;refine ar (qd b X v hv r t hq) h λx w h=>?_;obtain⟨hx,h⟩:=h.aP;rw[hx];cases hks:v.ks with
  |nil=>
   have e:lp v=-1:=(by unfold lp;rw[hks]);rw[e];refine ae (λ_=>?_) λc=>(by cases c);exact au.aH rfl (h.gn b X v r t hq).aI
  |cons k l=>
   obtain⟨i,f,hf,hs,hni,he⟩:=(hv.ks k).1 (by rw[hks];simp);have hi8:=(hv.fl i f hf).1;have e:lp v=(i:Int):=by unfold lp;rw[hks,he]
   rw[e];refine ae (λc=>?_) λ_=>?_
   ·exfalso;have c:(i:Int)<0:=cC;omega
   obtain⟨q1,q2,q3⟩:=hq.some hi8 hf;obtain⟨s1,s2,h⟩:=h.kv b X (eB X v.c r t) v.lv;refine ac ⟨by omega,?_⟩;rw[eX];refine ah h (FM X v.c r t s1 s2 hi8) ?_;cases hss:f.sg with
   |nil=>exact absurd hss hs
   |cons a1 l1=>
   rw[hss]at q3;have h:=h.H2 r (fT v) hi8;rw[q3]at h;refine bP (rT (r i) a1 l1) h λr13 w h=>?_;obtain⟨hr13,h⟩:=h.aP;rw[hr13];have h:=h.Lg r r (fT v) (fT v) hi8 (λ_ _=>rfl) (λ_ _=>rfl) (tk:=by rw[q3];infer_instance);have h:=h.dW b X (eB X v.c r t) s1 s2 v.lv;refine au.aH ?_ (h.gn b X v r t hq).aI;have e3:(r i).2.2.2.1=f.nx:=by rw[q2]
   rw[e3];have e4:(if ve a1>f.nx then ve a1 else f.nx)=du f:=by unfold du;rw[hss]
   rw[e4,he]
   rfl
theorem xy(v i x lv ks)(n:Int)(e:j≠i):fT {v with fl:=kz v.fl i x,lv:=lv,ks:=ks,n:=n} j=fT v j:=by
 unfold fT;show(match kz v.fl i x j with|none=>[]|some f=>f.sg)=_;rw[eG _ _ e]
 try rfl
theorem kw{u v:Qm}{j:Nat}(hf:u.fl j=v.fl j)(hl:bX u.lv (j:Int)=bX v.lv (j:Int)):fx u j=fx v j:=by unfold fx;rw[hf,hl]
theorem xf(lv){i j:Int}(h:j≠i):bX (dM lv i) j=bX lv j:=by
 unfold bX dM;simp only[ud,iZ,ne_eq];simp[h]
theorem HG(b X v)(hv:jv v)(i:Int):bu (TZ (some ⟨b,1⟩) i) (cM b X v) (λx=>aS x KS (cO v i).1^cM b X (cO v i).2):=
 bC λw0 S R h=>by
  refine aQ h (λ_=>cM b X v) (λ_=>(0≤i∧i≤7)∧∃f,v.fl i.toNat=some f) (λ_ w hh h=>?_) ?_
  ·obtain⟨hi,f,hf⟩:=hh;have hi8:i.toNat<8:=by omega
   have hl:=hv.lv.GH;obtain⟨r,t,hq,h⟩:=(h.le (aJ _)).cM b X v;obtain⟨q1,q2,q3⟩:=hq.some hi8 hf;obtain⟨s1,s2,h⟩:=h.kv b X (eB X v.c r t) v.lv;refine ac ⟨by omega,ah h (sI X v.c r t s1 s2 hi8) ?_⟩;have h:=h.dW b X (eB X v.c r t) s1 s2 v.lv;refine ac (ar (vT b X (eB X v.c r t) (1+65) rfl v.lv i (by omega)) h λ_ w h=>?_);obtain⟨_,h⟩:=h.aP;rw[show(jH v.lv i).2=dM v.lv i from rfl]at h;obtain⟨s1,s2,h⟩:=h.kv b X (eB X v.c r t) (dM v.lv i);refine aM h λw h=>ac (ac ⟨by omega,?_⟩);refine aA h b (eB X v.c r (pO t i.toNat false)++.sl s1::aY s2::mA X) rfl (iY (by show 1+57+i.toNat*1+1≤140;omega)) (HV X v.c r t s1 s2 hi8 false) λw h=>⟨by omega,?_⟩;refine aA h b (eB X v.c (gq r i.toNat zF) (pO t i.toNat false)++.sl s1::aY s2::mA X) rfl (iY (by show 1+9+i.toNat*6+6≤140;omega)) (OE X v.c r (pO t i.toNat false) s1 s2 hi8 zF) λw h=>?_;have h:=h.dW b X (eB X v.c (gq r i.toNat zF) (pO t i.toNat false)) s1 s2 (dM v.lv i);have h:=h.H2 r (fT v) hi8;rw[q3]at h;have h:=h.nil KS;obtain⟨ks',n',hce⟩:∃ks' n',cO v i=(f.sg,{v with fl:=kz v.fl i.toNat none,lv:=dM v.lv i,ks:=ks',n:=n'}):=by
    unfold cO;rw[ay (λx=>x hi),hf];exact⟨_,_,rfl⟩
   rw[hce];have hsn:fT {v with fl:=kz v.fl i.toNat none,lv:=dM v.lv i,ks:=ks',n:=n'} i.toNat=[]:=by
    unfold fT;show(match kz v.fl i.toNat none i.toNat with|none=>[]|some f=>f.sg)=_;rw[cA]
   have h:=h.Lg r (gq r i.toNat zF) (fT v) (fT {v with fl:=kz v.fl i.toNat none,lv:=dM v.lv i,ks:=ks',n:=n'}) hi8 (λq e=>fR _ _ e) (λq e=>xy v i.toNat none _ _ _ e) (tk:=by rw[hsn,da];infer_instance);have hq2:Rq {v with fl:=kz v.fl i.toNat none,lv:=dM v.lv i,ks:=ks',n:=n'} (gq r i.toNat zF) (pO t i.toNat false):=⟨λq hq8=>by
    show _=(kz v.fl i.toNat none q).isSome;by_cases e:q=i.toNat
    ·rw[e,wC,cA];rfl
    ·rw[D6 _ _ e,eG _ _ e];exact hq.t q hq8,λq hq8=>by
    by_cases e:q=i.toNat
    ·rw[e,da];unfold yl;rw[show({v with fl:=kz v.fl i.toNat none,lv:=dM v.lv i,ks:=ks',n:=n'}:Qm).fl i.toNat=none from cA _ _ _]
    ·rw[fR _ _ e];have:=hq.r q hq8;unfold yl at this⊢;rw[show({v with fl:=kz v.fl i.toNat none,lv:=dM v.lv i,ks:=ks',n:=n'}:Qm).fl q=v.fl q from eG _ _ e];rw[kw (u:={v with fl:=kz v.fl i.toNat none,lv:=dM v.lv i,ks:=ks',n:=n'}) (v:=v) (eG _ _ e) (xf v.lv (by omega))];exact this⟩
   have h:=h.gn b X {v with fl:=kz v.fl i.toNat none,lv:=dM v.lv i,ks:=ks',n:=n'} (gq r i.toNat zF) (pO t i.toNat false) hq2;exact h.aI
  ·have none_:∀{w:World},cO v i=([],v)→au w0 S R w (cM b X v)→au w0 S R w (aS ⟨none,0,0⟩ KS (cO v i).1^cM b X (cO v i).2):=λ{w} e h=>by
    rw[e];exact((h.le (aJ _)).nil KS).aI
   refine ae (λc=>?_) λc=>?_
   ·have c:i<0∨i≥8:=cC;refine none_ ?_ h;unfold cO;rw[aG (by omega)]
   ·have c:¬(i<0∨i≥8):=cC;have hi8:i.toNat<8:=(by omega);obtain⟨r,t,hq,h⟩:=(h.le (aJ _)).cM b X v;obtain⟨s1,s2,h⟩:=h.kv b X (eB X v.c r t) v.lv;refine ac ⟨by omega,ah h (I9 X v.c r t s1 s2 hi8) ?_⟩;have ht:=hq.t i.toNat hi8;have h:=h.dW b X (eB X v.c r t) s1 s2 v.lv;have h:=h.gn b X v r t hq;refine ae (λc2=>?_) λc2=>?_
    ·have c2:t i.toNat=false:=gK;refine none_ ?_ h.aI;unfold cO;rw[ay (by omega)];cases hf:v.fl i.toNat with
     |none=>rfl
     |some f=>rw[ht,hf]at c2;cases c2
    ·have c2:t i.toNat=true:=gK;refine⟨⟨by omega,?_⟩,h.aI⟩;cases hf:v.fl i.toNat with
     |none=>rw[ht,hf]at c2;cases c2
     |some f=>exact⟨f,rfl⟩
end PM

end Go.X
