/- Contracts. -/
import Derived.Test.YtniflenfpbbikaaGreatDoorB6
set_option linter.all false
set_option autoImplicit true
set_option relaxedAutoImplicit true
namespace Go.X
open IntKind (u64 i64)
open Go.Proofs
namespace Ls
open bK bp eX ga eC
abbrev rL(m0 c0:Int)(v:Sk)(sl:Sl)(m:Nat):List Lf:=[aJ v.id,aJ m0,aJ c0,aJ 1073741824,aC (bU v.bf),aC (bN v.bf),aC (bW v.bf),aX sl,aC v.bd.2,
 aC (pD v.sp),aC (pT v.sp),aC (pF v.sp),aC (pL v.sp),a_ (pH v.sp),aC (pG v.sp),aC (oN v.sp),aC (nH v.sp),aC (m_ v.sp),aC (nG v.sp),a_ (od v.sp),
 .ptr (some ⟨m,0⟩),aC v.out,aC v.nx]
theorem Kr(b)(m0 c0:Int)(v sl m)(n:Int)(ho:0≤v.out∧v.out<9223372036854775808)(hn:n<9223372036854775808):bx (VC (some ⟨b,0⟩) n)
  (ah b (rL m0 c0 v sl m)) (λr=>br (r=(cv v n).1) (ah b (rL m0 c0 (cv v n).2 sl m))):=
 bF λw0 S R h=>by
  have h:=h.le (aG _);refine aS h (λ_=>ah b (rL m0 c0 v sl m)^bg) (λ_=>1≤n∧n≤v.out) (λ_ w hc h=>?_) ?_
  ·have e:cv v n=(0,{v with out:=v.out-n}):=(by unfold cv;rw[aw (by omega)]);rw[e];have e1:u64.wrap (v.out-u64.wrap n)=v.out-n:=(by rw[iy (n:=n),iy]);refine ac (aj (x:=v.out) h rfl (ac (aB h b (rL m0 c0 {v with out:=v.out-n} sl m) rfl rfl (by rw[e1];rfl) λw h=>?_)));exact au.aH rfl h.aK
  ·refine ae (λc=>?_) λc=>?_
   ·have c:n<1:=bZ c;have e:cv v n=(1,v):=(by unfold cv;rw[aF (by omega)]);rw[e];exact au.aH rfl h.aK
   ·have c:¬n<1:=cd c;refine ac (aj (x:=v.out) h rfl (ae (λc2=>?_) λc2=>?_))
    ·have c2:u64.wrap n>v.out:=bZ c2;rw[iy]at c2;have e:cv v n=(1,v):=(by unfold cv;rw[aF (by omega)]);rw[e];exact au.aH rfl h.aK
    ·have c2:¬u64.wrap n>v.out:=cd c2;rw[iy]at c2;exact⟨⟨by omega,by omega⟩,h⟩
theorem Hx(b)(m0 c0:Int)(v sl m)(upto:Int):bx (TX (some ⟨b,3⟩) upto)
  (ah b (rL m0 c0 v sl m)) (λr=>br (r=(tD v.bf upto).1) (ah b (rL m0 c0 {v with bf:=(tD v.bf upto).2} sl m))):=
 bF λw0 S R h=>by
  have h:=h.le (aG _);refine ac (aj (x:=bN v.bf) h rfl (ae (λc=>?_) λc=>?_))
  ·have c:upto>bN v.bf:=bZ c;have e:tD v.bf upto=(11,v.bf):=(by unfold tD;rw[aF c]);rw[e];exact au.aH rfl h.aK
  ·have c:¬upto>bN v.bf:=cd c;have e:tD v.bf upto=(0,(bW v.bf,bN v.bf,if upto>bU v.bf then upto else bU v.bf,bL v.bf)):=(by unfold tD;rw[aw c]);rw[e];refine ac (aj (x:=bU v.bf) h rfl (ac (aB h b (rL m0 c0 {v with bf:=(bW v.bf,bN v.bf,(if upto>bU v.bf then upto else bU v.bf),bL v.bf)} sl m) rfl rfl rfl λw h=>?_)));exact au.aH rfl h.aK
theorem FM(b)(m0 c0:Int)(v sl m)(flight:Int)(hs:pS v.sp)(hf:U flight):bx (Ux (some ⟨b,9⟩) flight)
  (ah b (rL m0 c0 v sl m)) (λ_=>ah b (rL m0 c0 {v with sp:=oz v.sp flight} sl m)):=
 bF λw0 S R h=>by
  have h:=h.le (aG _);refine ac (aj (x:=pD v.sp) h rfl (aI (fL (pD v.sp) flight hs.d hf) (h.le ((aG _).trans (aU _ _))) λw h=>?_));refine ac (aB h b (rL m0 c0 {v with sp:=oz v.sp flight} sl m) rfl rfl rfl λw h=>?_);exact h.bq
theorem HO(b)(m0 c0:Int)(v sl m)(af flight:Int):bx (Uz (some ⟨b,9⟩) af flight)
  (ah b (rL m0 c0 v sl m)) (λr=>br (r=(jJ v.sp af flight).1) (ah b (rL m0 c0 {v with sp:=(jJ v.sp af flight).2} sl m))):=
 bF λw0 S R h=>by
  refine aD (h.le (aG _)) λn1 w h=>?_;have h:au w0 S R w (ah n1 [aC 0,aC 0,aC 0,aC 0,a_ false]^ah b (rL m0 c0 v sl m)^bg):=h.aK;refine aS h (λ_=>ah n1 [aC 0,aC 0,aC 0,aC 0,a_ false]^ah b (rL m0 c0 {v with sp:=gQ v.sp af flight} sl m)^bg) (λ_=>True) (λ_ w _ h=>?_) ?_
  ·refine aM h λw h=>ac (ac (ac (ac (aj (x:=pD (gQ v.sp af flight)) h rfl (aj (x:=pT (gQ v.sp af flight)) h rfl (aj (x:=pF (gQ v.sp af flight)) h rfl (aj (x:=pL (gQ v.sp af flight)) h rfl ?_)))))));obtain⟨X,hX⟩:∃X:Ks.T cy,X=(jJ v.sp af flight).1:=⟨_,rfl⟩;refine aB h n1 (Ks.mk cy X) rfl rfl ?_ λw h=>ay (b:=n1) (x:=X) h rfl ?_
   ·have e:(pL (gQ v.sp af flight)!=0)=decide (pL (gQ v.sp af flight)≠0):=by
     by_cases c:pL (gQ v.sp af flight)=0
     ·rw[c];rfl
     ·rw[nM c];simpa using c
    rw[e,hX];rfl
   ·have e2:(jJ v.sp af flight).2=gQ v.sp af flight:=rfl;rw[e2];exact au.aH hX h.aK
  ·refine ae (λc=>?_) λc=>?_
   ·have c:flight=0:=cS;refine ac (aB h b (rL m0 c0 {v with sp:=(pD v.sp,pT v.sp,af,pL v.sp,pH v.sp,pG v.sp,oN v.sp,nH v.sp,od v.sp,m_ v.sp,nG v.sp)} sl m) rfl rfl rfl λw h=>?_);refine ac (aB h b (rL m0 c0 {v with sp:=gQ v.sp af flight} sl m) rfl rfl (by unfold gQ;rw[aF c];rfl) λw h=>⟨trivial,h.aK⟩)
   ·have c:¬flight=0:=cS;refine⟨trivial,?_⟩;have e:gQ v.sp af flight=v.sp:=(by unfold gQ;rw[aw c]);rw[e];exact h
theorem HR(b)(m0 c0:Int)(v sl m)(n:Int)(hb:rN v.bf)(hl:bL v.bf=1073741824)(hw:bW v.bf≤1152921504606846976)(hn:n<9223372036854775808):bx (Y3 (some ⟨b,3⟩) n)
  (ah b (rL m0 c0 v sl m)) (λr=>br (r=(AZ v.bf n).1) (ah b (rL m0 c0 {v with bf:=(AZ v.bf n).2} sl m))):=
 bF λw0 S R h=>by
  have h:=h.le (aG _);have u1:=hb.u;have u2:=hb.un;have u3:=hb.nw;have u4:=hb.l;rw[hl]at u4;refine ae (λc=>?_) λc=>?_
  ·have c:n<1:=bZ c;have e:AZ v.bf n=(1,v.bf):=(by unfold AZ;rw[aF c]);rw[e];exact au.aH rfl h.aK
  ·have c:¬n<1:=cd c;refine aM h λw h=>ac (ac (ac (aj (x:=(1073741824:Int)) h rfl (aj (x:=bW v.bf) h rfl (aj (x:=bU v.bf) h rfl ?_)))));have k:(if(if(1073741824:Int)<(1073741824:Int)then(1073741824:Int)else(1073741824:Int))>(0:Int)then(if(1073741824:Int)<(1073741824:Int)then(1073741824:Int)else(1073741824:Int))else(0:Int))=1073741824:=(by decide);rw[k,iy (n:=n),iy (n:=1073741824),iy (n:=bW v.bf-bU v.bf),iy (n:=1073741824-(bW v.bf-bU v.bf))];refine ae (λc2=>?_) λc2=>?_
   ·have c2:n>1073741824-(bW v.bf-bU v.bf):=bZ c2;have e:AZ v.bf n=(5,v.bf):=(by unfold AZ;rw[aw c,hl,aF c2]);rw[e];exact au.aH rfl h.aK
   ·have c2:¬n>1073741824-(bW v.bf-bU v.bf):=cd c2;have e:AZ v.bf n=(0,(bW v.bf+n,bN v.bf,bU v.bf,bL v.bf)):=(by unfold AZ;rw[aw c,hl,aw c2]);rw[e];refine ac (aj (x:=bW v.bf) h rfl (ac (aB h b (rL m0 c0 {v with bf:=(bW v.bf+n,bN v.bf,bU v.bf,bL v.bf)} sl m) rfl rfl ?_ λw h=>?_)))
    ·rw[iy (n:=bW v.bf+n)];rfl
    ·exact au.aH rfl h.aK
end Ls

namespace Xp
open bK bp eX ga eC Ls
theorem KQ(b)(m0 c0:Int)(v sl m)(most:Int)(hb:rN v.bf)(hm:most<9223372036854775808):bx (UB (some ⟨b,3⟩) most)
  (ah b (rL m0 c0 v sl m)) (λr=>br (r=(ly v.bf most).1) (ah b (rL m0 c0 {v with bf:=(ly v.bf most).2} sl m))):=
 bF λw0 S R h=>by
  have u1:=hb.u;have u2:=hb.un;have u3:=hb.nw;have u4:=hb.l;have u5:=hb.w;have u6:=hb.ll;refine aD (h.le (aG _)) λn1 w h=>?_;have h:au w0 S R w (ah n1 [aC 0,aC 0]^ah b (rL m0 c0 v sl m)^bg):=h.aK;refine aS h (λ_=>ah n1 [aC 0,aC 0]^ah b (rL m0 c0 v sl m)^bg) (λ_=>most≥1∧bW v.bf-bN v.bf≠0) (λ_ w hc h=>?_) ?_
  ·have e:ly v.bf most=(((bN v.bf,bN v.bf+min (bW v.bf-bN v.bf) most),true),(bW v.bf,bN v.bf+min (bW v.bf-bN v.bf) most,bU v.bf,bL v.bf)):=(by unfold ly;rw[aF hc]);rw[e];obtain⟨X,hX⟩:∃X,X=bN v.bf+min (bW v.bf-bN v.bf) most:=⟨_,rfl⟩;rw[←hX];have e2:u64.wrap (bN v.bf+(if(u64.wrap (bW v.bf-bN v.bf))<(u64.wrap most)then(u64.wrap (bW v.bf-bN v.bf))else(u64.wrap most)))=X:=by
    rw[iy (n:=bW v.bf-bN v.bf),iy (n:=most),hX];by_cases c:bW v.bf-bN v.bf<most
    ·rw[aF c,iy];omega
    ·rw[aw c,iy];omega
   refine aM h λw h=>ac (ac (ac (ac (aj (x:=bN v.bf) h rfl (aj (x:=bN v.bf) h rfl (aj (x:=bW v.bf) h rfl (aj (x:=bN v.bf) h rfl ?_)))))));refine aD h λn18 w h=>aN h rfl (aN h rfl (aN h rfl (aN h rfl ?_)));rw[e2];refine aB h n18 (Ks.mk [.int .u64,.int .u64] (bN v.bf,X)) rfl rfl rfl λw h=>?_;refine aj (x:=X) h rfl (ac (aB h b (rL m0 c0 {v with bf:=(bW v.bf,X,bU v.bf,bL v.bf)} sl m) rfl rfl rfl λw h=>?_));refine ay (b:=n18) (x:=((bN v.bf,X):Ks.T [.int .u64,.int .u64])) h rfl (aB h n1 (Ks.mk [.int .u64,.int .u64] (bN v.bf,X)) rfl rfl rfl λw h=>?_);refine ay (b:=n1) (x:=((bN v.bf,X):Ks.T [.int .u64,.int .u64])) h rfl ?_;exact au.aH rfl h.aK
  ·refine aM h λw h=>ae (λc=>?_) λc=>?_
   ·have c:most<1:=bZ c;have e:ly v.bf most=(((0,0),false),v.bf):=(by unfold ly;rw[aw (by omega)]);rw[e];refine aA h (by rfl) λw h=>ay (b:=n1) (x:=((0,0):Ks.T [.int .u64,.int .u64])) h rfl ?_;exact au.aH rfl h.aK
   ·have c:¬most<1:=cd c;refine ac (ac (aj (x:=bN v.bf) h rfl (aj (x:=bW v.bf) h rfl (ae (λc2=>?_) λc2=>?_))))
    ·have c2:bN v.bf=bW v.bf:=gJ;have e:ly v.bf most=(((0,0),false),v.bf):=(by unfold ly;rw[aw (by omega)]);rw[e];refine aA h (by rfl) λw h=>ay (b:=n1) (x:=((0,0):Ks.T [.int .u64,.int .u64])) h rfl ?_;exact au.aH rfl h.aK
    ·have c2:¬bN v.bf=bW v.bf:=gJ;exact⟨⟨by omega,by omega⟩,h⟩
end Xp

namespace Tv
open bK bp eX ga eC Ls
theorem HP(b)(m0 c0:Int)(v sl m)(af bn flight:Int)(hs:pS v.sp)(hn:U af):bx (PY (some ⟨b,9⟩) af bn flight)
  (ah b (rL m0 c0 v sl m)) (λr=>br (r=(gh v.sp af bn flight).1) (ah b (rL m0 c0 {v with sp:=(gh v.sp af bn flight).2} sl m))):=
 bF λw0 S R h=>by
  refine aD (h.le (aG _)) λn1 w h=>ac (aj (x:=pD v.sp) h rfl (aD h λn4 w h=>aB h n4 (Ks.mk aW (af,pD v.sp,0,0,0,0,bn,flight,false)) rfl rfl rfl λw h=>?_));obtain⟨X,hX⟩:∃X:Ks.T aW,X=(gh v.sp af bn flight).1:=⟨_,rfl⟩;have h:au w0 S R w (ah n4 (Ks.mk aW (af,pD v.sp,0,0,0,0,bn,flight,false))^ah n1 [aC 0,aC 0,aC 0,aC 0,aC 0,aC 0,aC 0,aC 0,a_ false]^ah b (rL m0 c0 v sl m)^bg):=h.aK;refine aS h (λ_=>ah n4 (Ks.mk aW X)^ah n1 [aC 0,aC 0,aC 0,aC 0,aC 0,aC 0,aC 0,aC 0,a_ false]^ah b (rL m0 c0 v sl m)^bg) (λ_=>True) (λ_ w _ h=>?_) ?_
  ·refine ac (aB h b (rL m0 c0 {v with sp:=(pD v.sp,pT v.sp,pF v.sp,pL v.sp,false,pG v.sp,oN v.sp,nH v.sp,od v.sp,m_ v.sp,nG v.sp)} sl m) rfl rfl rfl λw h=>?_);refine ac (aB h b (rL m0 c0 {v with sp:=(pD v.sp,pT v.sp,pF v.sp,pL v.sp,false,0,oN v.sp,nH v.sp,od v.sp,m_ v.sp,nG v.sp)} sl m) rfl rfl rfl λw h=>?_);refine ac (aB h b (rL m0 c0 {v with sp:=(pD v.sp,pT v.sp,pF v.sp,pL v.sp,false,0,0,nH v.sp,od v.sp,m_ v.sp,nG v.sp)} sl m) rfl rfl rfl λw h=>?_);refine ac (aB h b (rL m0 c0 {v with sp:=(pD v.sp,pT v.sp,pF v.sp,pL v.sp,false,0,0,0,od v.sp,m_ v.sp,nG v.sp)} sl m) rfl rfl rfl λw h=>?_);refine ac (aB h b (rL m0 c0 {v with sp:=(pD v.sp,pT v.sp,pF v.sp,pL v.sp,false,0,0,0,od v.sp,0,nG v.sp)} sl m) rfl rfl rfl λw h=>?_);refine ac (aB h b (rL m0 c0 {v with sp:=(pD v.sp,pT v.sp,pF v.sp,pL v.sp,false,0,0,0,od v.sp,0,0)} sl m) rfl rfl rfl λw h=>?_);refine ac (aB h b (rL m0 c0 {v with sp:=(gh v.sp af bn flight).2} sl m) rfl rfl rfl λw h=>?_);refine ay (b:=n4) (x:=X) h rfl (aB h n1 (Ks.mk aW X) rfl rfl rfl λw h=>ay (b:=n1) (x:=X) h rfl ?_);exact au.aH hX h.aK
  ·refine ac (aj (x:=pH v.sp) h rfl (ae (λc=>?_) λc=>?_))
   ·have e:X=(af,pD v.sp,oN v.sp,jF (m_ v.sp) (dV af (nH v.sp)),nG v.sp,pG v.sp,bn,flight,od v.sp):=(by rw[hX];unfold gh;rw[aF c]);refine aM h λw h=>ac (ac (ac (ac (aj (x:=pG v.sp) h rfl (aj (x:=oN v.sp) h rfl (aj (x:=od v.sp) h rfl (aj (x:=nG v.sp) h rfl ?_)))))));refine aB h n4 (Ks.mk aW (af,pD v.sp,0,0,0,pG v.sp,bn,flight,false)) rfl rfl rfl λw h=>aN h rfl (aN h rfl (aN h rfl ?_));refine aB h n4 (Ks.mk aW (af,pD v.sp,oN v.sp,0,0,pG v.sp,bn,flight,false)) rfl rfl rfl λw h=>aN h rfl (aN h rfl ?_);refine aB h n4 (Ks.mk aW (af,pD v.sp,oN v.sp,0,0,pG v.sp,bn,flight,od v.sp)) rfl rfl rfl λw h=>aN h rfl ?_;refine aB h n4 (Ks.mk aW (af,pD v.sp,oN v.sp,0,nG v.sp,pG v.sp,bn,flight,od v.sp)) rfl rfl rfl λw h=>?_;refine aM h λw h=>ac (ac (aj (x:=m_ v.sp) h rfl (aj (x:=nH v.sp) h rfl ?_)));refine aI (kd af (nH v.sp) hn hs.pt) (h.le ((aG _).trans (aU _ _))) λw h=>?_;refine aN h rfl ?_;have el:(if dV af (nH v.sp)>m_ v.sp then dV af (nH v.sp)else m_ v.sp)=jF (m_ v.sp) (dV af (nH v.sp)):=by
     have hu:=hs.si;unfold U at hu;unfold jF
     (repeat' split)<;>omega
    rw[el];refine aB h n4 (Ks.mk aW X) rfl rfl (by rw[e];rfl) λw h=>⟨trivial,h.aK⟩
   ·refine⟨trivial,?_⟩;have e:X=(af,pD v.sp,0,0,0,0,bn,flight,false):=by rw[hX];unfold gh;rw[aw (by rw[c];simp)]
    rw[e];exact h
end Tv

namespace WX
open bK bp eX ga eC mS Ls
theorem FL(b:Nat)(m0 c0:Int)(v:Sk)(sl:Sl)(m:Nat)(af n:Int)(sn:Sn)(hs:pS v.sp)(hn:U af)(hU:U n)(hsn:Ef sn):bx (TY (some ⟨b,9⟩) af n sn)
  (ah b (rL m0 c0 v sl m)) (λ_=>ah b (rL m0 c0 {v with sp:=yh v.sp af n sn} sl m)):=
 bF λw0 S R h=>by
  obtain⟨D,hD⟩:∃D,D=bH (pD v.sp) n:=⟨_,rfl⟩;obtain⟨G,hG⟩:∃G,G=bH (pG v.sp) n:=⟨_,rfl⟩;obtain⟨L,hL⟩:∃L,L=if D>pL v.sp then 0 else pL v.sp:=⟨_,rfl⟩
  refine aD (h.le (aG _)) λn1 w h=>ac (aj (x:=pD v.sp) h rfl (aq (fL (pD v.sp) n hs.d hU) (h.le ((aG _).trans (aU _ _))) λr w h=>?_));obtain⟨hr,h⟩:=h.aP;rw[hr,←hD];refine ac (aB h b (rL m0 c0 {v with sp:=(D,pT v.sp,pF v.sp,pL v.sp,pH v.sp,pG v.sp,oN v.sp,nH v.sp,od v.sp,m_ v.sp,nG v.sp)} sl m) rfl rfl rfl λw h=>?_);refine ac (aB h b (rL m0 c0 {v with sp:=(D,af,pF v.sp,pL v.sp,pH v.sp,pG v.sp,oN v.sp,nH v.sp,od v.sp,m_ v.sp,nG v.sp)} sl m) rfl rfl rfl λw h=>?_);have h:au w0 S R w (ah b (rL m0 c0 {v with sp:=(D,af,pF v.sp,pL v.sp,pH v.sp,pG v.sp,oN v.sp,nH v.sp,od v.sp,m_ v.sp,nG v.sp)} sl m)^ah n1 (Ks.mk cy sn)^bg):=h.aK;refine aS h (λ_=>ah b (rL m0 c0 {v with sp:=(D,af,pF v.sp,L,pH v.sp,pG v.sp,oN v.sp,nH v.sp,od v.sp,m_ v.sp,nG v.sp)} sl m)^ah n1 (Ks.mk cy sn)^bg) (λ_=>True) (λ_ w _ h=>?_) ?_;rotate_left
  ·refine aM h λw h=>ac (ac (aj (x:=D) h rfl (aj (x:=pL v.sp) h rfl (ae (λc=>?_) λc=>?_))))
   ·have c:D>pL v.sp:=bZ c;refine ac (aB h b (rL m0 c0 {v with sp:=(D,af,pF v.sp,L,pH v.sp,pG v.sp,oN v.sp,nH v.sp,od v.sp,m_ v.sp,nG v.sp)} sl m) rfl rfl (by rw[hL,aF c];rfl) λw h=>⟨trivial,h.aK⟩)
   ·have c:¬D>pL v.sp:=cd c;refine⟨trivial,?_⟩;rw[hL,aw c];exact h
  refine ac (aj (x:=pG v.sp) h rfl (aq (fL (pG v.sp) n hs.g hU) (h.le ((aG _).trans (aU _ _))) λr w h=>?_));obtain⟨hr,h⟩:=h.aP;rw[hr,←hG];refine ac (aB h b (rL m0 c0 {v with sp:=(D,af,pF v.sp,L,pH v.sp,G,oN v.sp,nH v.sp,od v.sp,m_ v.sp,nG v.sp)} sl m) rfl rfl rfl λw h=>?_);have h:au w0 S R w (ah b (rL m0 c0 {v with sp:=(D,af,pF v.sp,L,pH v.sp,G,oN v.sp,nH v.sp,od v.sp,m_ v.sp,nG v.sp)} sl m)^ah n1 (Ks.mk cy sn)^bg):=h.aK;obtain⟨Z,hZ⟩:∃Z:Sp,Z=if PI v.sp sn then(D,af,sn.1,L,pH v.sp,G,sn.2.1,sn.2.2.1,sn.2.2.2.2,dV sn.1 sn.2.2.2.1,dV af sn.1)else(D,af,pF v.sp,L,pH v.sp,G,oN v.sp,nH v.sp,od v.sp,m_ v.sp,nG v.sp):=⟨_,rfl⟩
  refine aS h (λ_=>ah b (rL m0 c0 {v with sp:=Z} sl m)^ah n1 (Ks.mk cy sn)^bg) (λ_=>True) (λ_ w _ h=>?_) ?_
  ·refine ac (aB h b (rL m0 c0 {v with sp:=yh v.sp af n sn} sl m) rfl rfl ?_ λw h=>h.bq);unfold yh;rw[←hD,←hG,←hL];by_cases c:PI v.sp sn=true
   ·rw[aF c];rw[aF c]at hZ;rw[hZ];rfl
   ·rw[aw c];rw[aw c]at hZ;rw[hZ];rfl
  ·refine aS h (λ_=>ah b (rL m0 c0 {v with sp:=(D,af,pF v.sp,L,pH v.sp,G,oN v.sp,nH v.sp,od v.sp,m_ v.sp,nG v.sp)} sl m)^ah n1 (Ks.mk cy sn)^bg) (λz:Bool=>z=PI v.sp sn) (λz w hz h=>?_) ?_;rotate_left
   ·refine aM h λw h=>ac (aj (x:=pH v.sp) h rfl (ae (λc=>?_) λc=>?_))
    ·refine⟨?_,h⟩;unfold PI;rw[c];rfl
    ·refine aj (x:=sn.2.1) h rfl (ac (aj (x:=oN v.sp) h rfl ⟨?_,h⟩));unfold PI;rw[c];rfl
   rw[hz];refine ae (λc=>?_) λc=>?_
   ·rw[aF c]at hZ;refine aM h λw h=>aj (x:=sn.2.1) h rfl (aj (x:=sn.2.2.1) h rfl (aj (x:=sn.2.2.2.2) h rfl ?_));refine ac (aB h b (rL m0 c0 {v with sp:=(D,af,pF v.sp,L,pH v.sp,G,sn.2.1,nH v.sp,od v.sp,m_ v.sp,nG v.sp)} sl m) rfl rfl rfl λw h=>aN h rfl (aN h rfl ?_));refine ac (aB h b (rL m0 c0 {v with sp:=(D,af,pF v.sp,L,pH v.sp,G,sn.2.1,sn.2.2.1,od v.sp,m_ v.sp,nG v.sp)} sl m) rfl rfl rfl λw h=>aN h rfl ?_);refine ac (aB h b (rL m0 c0 {v with sp:=(D,af,pF v.sp,L,pH v.sp,G,sn.2.1,sn.2.2.1,sn.2.2.2.2,m_ v.sp,nG v.sp)} sl m) rfl rfl rfl λw h=>?_);refine aM h λw h=>aj (x:=sn.1) h rfl (aj (x:=sn.2.2.2.1) h rfl (aj (x:=sn.1) h rfl ?_));refine aI (kd sn.1 sn.2.2.2.1 hsn.a hsn.d) (h.le ((aG _).trans (aU _ _))) λw h=>?_;refine aN h rfl (aI (kd af sn.1 hn hsn.a) (h.le ((aG _).trans (aU _ _))) λw h=>?_);refine ac (aB h b (rL m0 c0 {v with sp:=(D,af,pF v.sp,L,pH v.sp,G,sn.2.1,sn.2.2.1,sn.2.2.2.2,dV sn.1 sn.2.2.2.1,nG v.sp)} sl m) rfl rfl rfl λw h=>?_);refine ac (aB h b (rL m0 c0 {v with sp:=(D,af,pF v.sp,L,pH v.sp,G,sn.2.1,sn.2.2.1,sn.2.2.2.2,dV sn.1 sn.2.2.2.1,dV af sn.1)} sl m) rfl rfl rfl λw h=>?_);refine aj (x:=sn.1) h rfl (ac (aB h b (rL m0 c0 {v with sp:=Z} sl m) rfl rfl (by rw[hZ];rfl) λw h=>⟨trivial,h.aK⟩))
   ·rw[aw (by rw[c];simp)]at hZ;rw[hZ];exact⟨trivial,h⟩
end WX

namespace PC
open bK bp fg wL Eg eX ga eC Ls
abbrev eV(u:Sk)(e:Int):Sk:={u with bd:=(u.bd.1,e)}
def kj(b:Nat)(m0 c0:Int)(u:Sk)(mq:Nat)(v:List Pc×Int):SP:=ex λs=>ah b (rL m0 c0 (eV u v.2) s mq)^aQ s aE v.1
instance(b:Nat)(m0 c0:Int)(u:Sk)(mq:Nat)(v:List Pc×Int):nt (kj b m0 c0 u mq v):=by unfold kj;infer_instance
theorem _root_.Go.X.au.kj{m0 c0:Int}{v:List Pc×Int}(h:au w0 S0 R0 w F)(b)[t:Take (PC.kj b m0 c0 u mq v) F G]:∃s,au w0 S0 R0 w (ah b (rL m0 c0 (eV u v.2) s mq)^aQ s aE v.1^G):=by
 obtain⟨s,h⟩:=(h.le t.le).lS;exact⟨s,h.le (bS _ _ _)⟩
theorem _root_.Go.X.au.jb(h:au w0 S0 R0 w F)(b)(m0 c0:Int)(u mq s l)(e:Int)[t:Take (ah b (rL m0 c0 (eV u e) s mq)^aQ s aE l) F G]:au w0 S0 R0 w (PC.kj b m0 c0 u mq (l,e)^G):=
 (h.le t.le).tH (f:=λs=>ah b (rL m0 c0 (eV u e) s mq)^aQ s aE l) s
theorem qO(b)(m0 c0:Int)(u mq)(v:List Pc×Int)(hl:v.1.length≤4294967296):bx (JF (some ⟨b,7⟩)) (kj b m0 c0 u mq v) (λr=>br (r=dD v.1) (kj b m0 c0 u mq v)):=
 bF λw0 S R h=>by
  obtain⟨s,h⟩:=(h.le (aG _)).kj (m0:=m0) (c0:=c0) (u:=u) (mq:=mq) (v:=v) b;have h:au w0 S R w0 (aQ s aE v.1^ah b (rL m0 c0 (eV u v.2) s mq)):=h.aK;have hs:=(h.rd (s:=s)).2;refine cZ (λ(_:Int×Int)=>aQ s aE v.1^ah b (rL m0 c0 (eV u v.2) s mq)) (λ(y:Int×Int)=>(0≤y.2∧y.2≤v.1.length)∧y.1=dD (v.1.take y.2.toNat)) (λ(y:Int×Int)=>v.1.length-y.2.toNat) h ⟨⟨by simp,by simp⟩,rfl⟩ ?_;rintro(⟨n,i⟩:Int×Int) w ⟨⟨h0,h1⟩,h2⟩ h;dsimp only at h0 h1 h2 h⊢;refine ac (aj h rfl ?_);refine ae (λc=>?_) λc=>?_
  ·have hi:i.toNat<v.1.length:=(by simp at c;omega);obtain⟨p,hp⟩:∃p,v.1[i.toNat]?=some p:=⟨_,bV hi⟩;have e:(i+1).toNat=i.toNat+1:=(by omega);have hfl:=oZ hp;rw[fu (n:=i+1)];refine aS h (λ_=>aQ s aE v.1^ah b (rL m0 c0 (eV u v.2) s mq)) (λ(y:Bool)=>y=lE p) (λ(y:Bool) w hy h=>?_) ?_
   ·refine ae (λc=>?_) λc=>?_
    ·refine aM h λw h=>?_;refine ac (ac (aj h rfl (aj h rfl ?_)));refine bT h h0 hi (bT h h0 hi ?_);refine eh h s i.toNat 1 p hp rfl (by decide) rfl ?_;refine eh h s i.toNat 0 p hp rfl (by decide) rfl ?_;refine⟨⟨⟨⟨by show 0≤i+1;omega,by show i+1≤_;omega⟩,?_⟩,h⟩,by show _-(i+1).toNat<_;omega⟩;show u64.wrap (u64.wrap (n+x5 p)-jc p)=dD (v.1.take (i+1).toNat);rw[e,hfl,uc,aF (by rw[←hy];exact c),←h2,Ic]
    ·refine⟨⟨⟨⟨by show 0≤i+1;omega,by show i+1≤_;omega⟩,?_⟩,h⟩,by show _-(i+1).toNat<_;omega⟩;show n=dD (v.1.take (i+1).toNat);rw[e,hfl,uc,aw (by rw[←hy,c];simp),h2]
   ·refine ac (aj h rfl ?_);refine bT h h0 hi ?_;refine eh h s i.toNat 7 p hp rfl (by decide) rfl ?_;refine ae (λc=>?_) λc=>?_
    ·refine ac (aj h rfl ?_);refine bT h h0 hi ?_;refine eh h s i.toNat 8 p hp rfl (by decide) rfl ?_;exact⟨by have c:(!yC p)=true:=c;rw[lE,c];rfl,h⟩
    ·exact⟨by have c:(!yC p)=false:=c;rw[lE,c];rfl,h⟩
  ·have hi:i.toNat=v.1.length:=(by simp at c;omega);rw[hi,sC]at h2;exact au.aH h2 ((h.le (aU _ _)).jb b m0 c0 u mq s v.1 v.2).aK
theorem Ar(b)(m0 c0:Int)(u mq)(v:List Pc×Int)(hl:v.1.length≤4294967296):bx (Qn (some ⟨b,7⟩)) (kj b m0 c0 u mq v) (λr=>br (r=fI jP v.1) (kj b m0 c0 u mq v)):=
 bF λw0 S R h=>by
  obtain⟨s,h⟩:=(h.le (aG _)).kj (m0:=m0) (c0:=c0) (u:=u) (mq:=mq) (v:=v) b;have h:au w0 S R w0 (aQ s aE v.1^ah b (rL m0 c0 (eV u v.2) s mq)):=h.aK;have hs:=(h.rd (s:=s)).2;refine cZ (λ(_:Int)=>aQ s aE v.1^ah b (rL m0 c0 (eV u v.2) s mq)) (λ(i:Int)=>(0≤i∧i≤v.1.length)∧∀j y,j<i.toNat→v.1[j]?=some y→jP y=false) (λ(i:Int)=>v.1.length-i.toNat) h ⟨⟨by simp,by simp⟩,λj y hj=>by simp at hj⟩ ?_;rintro(i:Int) w ⟨⟨h0,h1⟩,h2⟩ h;refine ac (aj h rfl ?_);refine ae (λc=>?_) λc=>?_
  ·have hi:i.toNat<v.1.length:=(by simp at c;omega);obtain⟨p,hp⟩:∃p,v.1[i.toNat]?=some p:=⟨_,bV hi⟩;have e:(i+1).toNat=i.toNat+1:=(by omega);refine ac (aj h rfl ?_);refine bT h h0 hi ?_;refine eh h s i.toNat 8 p hp rfl (by decide) rfl ?_;refine ae (λc=>?_) λc=>?_
   ·refine au.aH ?_ ((h.le (aU _ _)).jb b m0 c0 u mq s v.1 v.2).aK;rw[EM hp c h2];exact(Aa h0).symm
   ·rw[fu (n:=i+1)];refine⟨⟨⟨⟨by show 0≤i+1;omega,by show i+1≤_;omega⟩,λj y hj hy=>?_⟩,h⟩,by show _-(i+1).toNat<_;omega⟩;have hj:j<(i+1).toNat:=hj;by_cases hji:j=i.toNat
    ·rw[hji,hp]at hy;cases hy;exact c
    ·exact h2 j y (by omega) hy
  ·have hi:i.toNat=v.1.length:=(by simp at c;omega);refine au.aH ?_ ((h.le (aU _ _)).jb b m0 c0 u mq s v.1 v.2).aK;rw[vr];intro y hy;obtain⟨j,hj,rfl⟩:=B6.1 hy;exact h2 j _ (by omega) (bV hj)
theorem Hu(b)(m0 c0:Int)(u mq)(v:List Pc×Int)(hl:v.1.length≤4294967296):bx (Uw (some ⟨b,7⟩)) (kj b m0 c0 u mq v) (λr=>br (r=bD v.1) (kj b m0 c0 u mq v)):=
 bF λw0 S R h=>by
  refine aD h λn1 w h=>?_;refine aI (Ar b m0 c0 u mq v hl) h λw h=>?_;refine ae (λc=>?_) λc=>?_
  ·refine be h rfl λw h=>?_;dsimp only[dE,over]at h;refine ay (x:=((0:Int),(0:Int))) h rfl ?_;exact au.aH (sf cS).symm h.aK
  ·have hpos:0≤fI jP v.1:=(by simp at c;omega);obtain⟨p,hp,_,hlt,_⟩:=sU hpos;obtain⟨s,h⟩:=h.kj (m0:=m0) (c0:=c0) (u:=u) (mq:=mq) (v:=v) b;have h:au w0 S R w (aQ s aE v.1^ah b (rL m0 c0 (eV u v.2) s mq)^ah n1 [aC 0,aC 0]):=h.aK;refine aM h λw h=>?_;refine ac (ac (aj h rfl (aj h rfl ?_)));refine bT h hpos hlt (bT h hpos hlt ?_);refine eh h s _ 0 p hp rfl (by decide) rfl ?_;refine eh h s _ 1 p hp rfl (by decide) rfl ?_;refine be h rfl λw h=>?_;dsimp only[dE,over]at h;refine ay (x:=(p.1,p.2.1)) h rfl ?_;exact au.aH (tb hpos hp).symm (h.jb b m0 c0 u mq s v.1 v.2).aK
theorem Hw(b)(m0 c0:Int)(u mq)(f t:Int)(s)(v:List Pc×Int):
  bx (UC (some ⟨b,7⟩) f t s) (kj b m0 c0 u mq v)
   (λr=>br (r=(dP v f t s).1) (kj b m0 c0 u mq (dP v f t s).2)):=
 bF λw0 S R h=>by
  refine aD h λn1 w h=>?_;obtain⟨sl,h⟩:=h.kj (m0:=m0) (c0:=c0) (u:=u) (mq:=mq) (v:=v) b;have hlen:=(h.rd (s:=sl)).2;refine ac (aj h rfl ?_);refine ae (λhc=>?_) λhc=>?_
  ·have e1:dP v f t s=(1,v):=(by simp at hc;simp[dP,hc]);rw[e1];exact au.aH rfl (h.jb b m0 c0 u mq sl v.1 v.2).bq
  ·refine ac (aj h rfl ?_);refine ae (λhc2=>?_) λhc2=>?_
   ·have e1:dP v f t s=(5,v):=by
     simp at hc hc2;rw[dP,aw (by omega),aF (by omega)]
    rw[e1];exact au.aH rfl (h.jb b m0 c0 u mq sl v.1 v.2).bq
   ·have e1:dP v f t s=(0,(v.1++[uE f t s],t)):=by
     simp at hc hc2;rw[dP,aw (by omega),aw (by omega)]
    have hl4:v.1.length<4096:=(by simp at hc2;omega);rw[e1];refine aM h λw h=>?_;refine ay h rfl ?_;refine ac (aj h rfl ?_);refine⟨?_,?_⟩
    ·have h:=h.nil aE;refine dF (K:=aE) (s:=⟨none,0,0⟩) (x:=sl) h rfl (by simp;omega) λs9 w hl h=>?_;have h:=h.eD (s:=s9) (K:=aE) (po _);refine aO h ?_;refine aD h λn10 w h=>?_;refine aN h rfl ?_;have h:=h.ct n10 aE [uE f t s] rfl (by simp);refine dF (K:=aE) (s:=s9) (x:=⟨some ⟨n10,0⟩,1,1⟩) h rfl (by simp;omega) λs10 w hl h=>?_;refine ac (aB h b (rL m0 c0 (eV u v.2) s10 mq) rfl rfl rfl λw h=>?_);refine ac (aB h b (rL m0 c0 (eV u t) s10 mq) rfl rfl rfl λw h=>?_);exact au.aH rfl (h.jb b m0 c0 u mq s10 (v.1++[uE f t s]) t).bq
    ·refine aD h λn10 w h=>?_;refine aN h rfl ?_;have h:=h.ct n10 aE [uE f t s] rfl (by simp);have h:=h.nil aE;refine dF (K:=aE) (s:=⟨none,0,0⟩) (x:=sl) h rfl (by simp;omega) λs9 w hl h=>?_;have h:=h.eD (s:=s9) (K:=aE) (po _);refine aO h ?_;refine dF (K:=aE) (s:=s9) (x:=⟨some ⟨n10,0⟩,1,1⟩) h rfl (by simp;omega) λs10 w hl h=>?_;refine ac (aB h b (rL m0 c0 (eV u v.2) s10 mq) rfl rfl rfl λw h=>?_);refine ac (aB h b (rL m0 c0 (eV u t) s10 mq) rfl rfl rfl λw h=>?_);exact au.aH rfl (h.jb b m0 c0 u mq s10 (v.1++[uE f t s]) t).bq
theorem Hv(b)(m0 c0:Int)(u mq)(v:List Pc×Int)(hl:v.1.length≤4294967295):bx (TZ (some ⟨b,7⟩)) (kj b m0 c0 u mq v) (λx=>br (x=dD v.1) (kj b m0 c0 u mq (v.1.map fj,v.2))):=
 bF λw0 S R h=>by
  refine aq (qO b m0 c0 u mq v (by omega)) (h.le (aG _)) λr1 w h=>?_;obtain⟨hr1,h⟩:=h.aP;obtain⟨s,h⟩:=h.kj (m0:=m0) (c0:=c0) (u:=u) (mq:=mq) (v:=v) b;have hs:=(h.rd (s:=s)).2;have h:=h.nil aE;have h:au w0 S R w (aQ ⟨none,0,0⟩ aE []^aQ s aE v.1^ah b (rL m0 c0 (eV u v.2) s mq)):=h.aK;refine cZ (λ(y:Sl×Int)=>aQ y.1 aE ((v.1.take y.2.toNat).map fj)^aQ s aE v.1^ah b (rL m0 c0 (eV u v.2) s mq)) (λ(y:Sl×Int)=>0≤y.2∧y.2≤v.1.length) (λ(y:Sl×Int)=>v.1.length-y.2.toNat) h ⟨by simp,by simp⟩ ?_;rintro(⟨t,i⟩:Sl×Int) w ⟨h0,h1⟩ h;dsimp only at h0 h1 h⊢;refine ac (aj h rfl ?_);refine ae (λc=>?_) λc=>?_
  ·have hi:i.toNat<v.1.length:=(by simp at c;omega);obtain⟨p,hp⟩:∃p,v.1[i.toNat]?=some p:=⟨_,bV hi⟩;have e:(i+1).toNat=i.toNat+1:=(by omega);have ht:(v.1.take (i.toNat+1)).map fj=(v.1.take i.toNat).map fj++[fj p]:=(by rw[lC,hp];simp);have h':=h.le (iX _ _ _);refine ac (aj h rfl ?_);refine bT h' h0 hi ?_;refine eE h' s i.toNat hp rfl ?_;refine aD h λn w h=>?_;refine aA h (by rfl) λw h=>?_;refine aS h (λ_=>ah n (Ks.mk aE (fj p))^aQ t aE ((v.1.take i.toNat).map fj)^aQ s aE v.1^ah b (rL m0 c0 (eV u v.2) s mq)) (λ_=>True) (λy w _ h=>?_) ?_
   ·refine ay h rfl ?_;refine aD h λm w h=>?_;have h:=h.ct m aE [fj p] rfl (by simp);refine dF (K:=aE) (s:=t) (x:=⟨some ⟨m,0⟩,1,1⟩) h rfl (by simp;omega) λs' w _ h=>?_;have h:=h.eD (s:=s') (K:=aE) (ys:=(v.1.take (i+1).toNat).map fj) (by rw[e,ht]);rw[fu (n:=i+1)];exact⟨⟨⟨by show 0≤i+1;omega,by show i+1≤_;omega⟩,h.aK⟩,by show _-(i+1).toNat<_;omega⟩
   ·refine aj h rfl ?_;have hlo:=Q_ p;refine ae (λc=>?_) λc=>?_
    ·have c:jP p=true:=c;rw[aF c]at hlo;refine be h rfl λw h=>?_;have h:au w0 S R w (ah n (Ks.mk aE (iG p true))^_):=h;rw[hlo]at h;exact⟨trivial,h.aK⟩
    ·have c:jP p=false:=c;rw[aw (by rw[c];simp)]at hlo;refine aj h rfl ?_;refine be h rfl λw h=>?_;have h:au w0 S R w (ah n (Ks.mk aE (iG p (!yC p)))^_):=h;rw[hlo]at h;exact⟨trivial,h.aK⟩
  ·have hi:i.toNat=v.1.length:=(by simp at c;omega);rw[hi,sC]at h;refine ac (aB h b (rL m0 c0 (eV u v.2) t mq) rfl rfl rfl λw h=>?_);exact au.aH hr1 (h.jb b m0 c0 u mq t (v.1.map fj) v.2).aK
theorem FC(b)(m0 c0:Int)(u mq s)(v:List Pc×Int)(hl:v.1.length≤4294967296):bx (UA (some ⟨b,7⟩) s) (kj b m0 c0 u mq v) (λr=>br (r=bD v.1) (kj b m0 c0 u mq (dJ v.1 s,v.2))):=
 bF λw0 S R h=>by
  refine aD h λn1 w h=>?_;refine aD h λn2 w h=>?_;refine aI (Ar b m0 c0 u mq v hl) h λw h=>?_;refine ae (λc=>?_) λc=>?_
  ·have hneg:fI jP v.1<0:=cS;have e:dJ v.1 s=v.1:=(by unfold dJ;split<;>simp[hneg]);refine be h rfl λw h=>?_;dsimp only[dE,over]at h;refine ay (x:=((0:Int),(0:Int))) h rfl ?_;rw[e];exact au.aH (sf hneg).symm h.aK
  ·have hpos:0≤fI jP v.1:=(by simp at c;omega);obtain⟨p,hp,_,hlt,_⟩:=sU hpos;have e:dJ v.1 s=v.1.set (fI jP v.1).toNat (mG p s):=(by unfold dJ;rw[hp];simp only;rw[aw (by omega)]);obtain⟨sl,h⟩:=h.kj (m0:=m0) (c0:=c0) (u:=u) (mq:=mq) (v:=v) b;refine ac (aj h rfl ?_);have h:=h.nil aE;refine dF (K:=aE) (s:=⟨none,0,0⟩) (x:=sl) h rfl (by simp;omega) λs7 w hl7 h=>?_;have h:=h.eD (s:=s7) (K:=aE) (po _);refine aM h λw h=>?_;refine ay h rfl ?_;refine bT h hpos hlt ?_;refine mE h s7 _ 8 p (iG p false) hp rfl (by decide) (by simp) rfl λw h=>?_;have hp2:(v.1.set (fI jP v.1).toNat (iG p false))[(fI jP v.1).toNat]?=some (iG p false):=(by rw[sB hlt]);refine aO h ?_;refine bT h hpos (by rw[rb];exact hlt) ?_;refine mE h s7 _ 2 (iG p false) (mG p s) hp2 rfl (by simp[Ks.len]) (by simp[Ks.mk]) rfl λw h=>?_;rw[Hr]at h;have hp3:(v.1.set (fI jP v.1).toNat (mG p s))[(fI jP v.1).toNat]?=some (mG p s):=(by rw[sB hlt]);refine ac (aB h b (rL m0 c0 (eV u v.2) s7 mq) rfl rfl rfl λw h=>?_);refine aM h λw h=>?_;have h:=h.take (aQ s7 aE (v.1.set (fI jP v.1).toNat (mG p s)));refine bT h hpos (by rw[rb];exact hlt) (bT h hpos (by rw[rb];exact hlt) ?_);refine eh h s7 _ 0 _ hp3 rfl (by decide) rfl ?_;refine eh h s7 _ 1 _ hp3 rfl (by decide) rfl ?_;refine be h rfl λw h=>?_;dsimp only[dE,over]at h;refine ay (x:=(p.1,p.2.1)) h rfl ?_;rw[e];exact au.aH (tb hpos hp).symm (h.jb b m0 c0 u mq s7 (v.1.set (fI jP v.1).toNat (mG p s)) v.2).aK
def oV(b:Nat)(m0 c0:Int)(u:Sk)(mq:Nat)(v:List Pc×Int)(upto:Int)(xs:List (Int×Int))(r:Sl×Int×Int):SP:=
 cond (uC v upto xs) (br (r.2.1=(cI (eR upto xs v.1)).2.1∧r.2.2=0) (aQ r.1 aE (fM upto xs v.1)^kj b m0 c0 u mq ((cI (eR upto xs v.1)).1,v.2)))
  (br (r.1=⟨none,0,0⟩∧r.2.1=0∧r.2.2=11) (aQ r.1 aE []^kj b m0 c0 u mq v))
theorem Ko(b)(m0 c0:Int)(u mq)(v:List Pc×Int)(upto:Int)(a xs)(hl:v.1.length≤4294967295)(hx:xs.length≤4294967296):
  bx (LQ (some ⟨b,7⟩) upto a) (kj b m0 c0 u mq v^aZ a KR xs) (oV b m0 c0 u mq v upto xs):=
 bF λw0 S R h=>by
  obtain⟨s,h⟩:=h.kj (m0:=m0) (c0:=c0) (u:=u) (mq:=mq) (v:=v) b;have h:au w0 S R w0 (aZ a KR xs^ah b (rL m0 c0 (eV u v.2) s mq)^aQ s aE v.1):=h.aK;have ha:=(h.rd (s:=a)).2;have hs:=((h.take (aQ s aE v.1)).rd (s:=s)).2;refine ac (aj h rfl ?_);refine cZ (λ(_:Bool×Int)=>aZ a KR xs^ah b (rL m0 c0 (eV u v.2) s mq)^aQ s aE v.1) (λ(y:Bool×Int)=>(0≤y.2∧y.2≤xs.length)∧y.1=(decide (upto>v.2)||(xs.take y.2.toNat).any (dI v.2))) (λ(y:Bool×Int)=>xs.length-y.2.toNat) h ⟨⟨by simp,by simp⟩,by simp⟩ ?_;rintro(⟨bad,i⟩:Bool×Int) w ⟨⟨h0,h1⟩,h2⟩ h;dsimp only at h0 h1 h2 h⊢;refine ae (λc=>?_) λc=>?_
  ·have hi:i.toNat<xs.length:=(by simp at c;omega);obtain⟨x,hx⟩:∃x,xs[i.toNat]?=some x:=⟨_,bV hi⟩;have e:(i+1).toNat=i.toNat+1:=(by omega);have hbt:=LG (e:=v.2) hx;rw[fu (n:=i+1)];refine aM h λw h=>?_;have hgo:∀c:Bool,c=(bad||dI v.2 x)→(((0≤(c,i+1).2∧(c,i+1).2≤(xs.length:Int))∧(c,i+1).1=(decide (upto>v.2)||(xs.take (c,i+1).2.toNat).any (dI v.2)))∧au w0 S R w (aZ a KR xs^ah b (rL m0 c0 (eV u v.2) s mq)^aQ s aE v.1))∧xs.length-(c,i+1).2.toNat<xs.length-(bad,i).2.toNat:=λc hc=>by
    dsimp only;rw[e,hbt,hc,h2,Bool.or_assoc];exact⟨⟨⟨⟨by omega,by omega⟩,rfl⟩,h⟩,by omega⟩
   refine ae (λc=>?_) λc=>?_
   ·exact hgo true (by have c:bad=true:=c;rw[c];rfl)
   ·have hb0:bad=false:=c;refine bT h h0 hi (ac ?_);refine eh h a i.toNat 1 x hx rfl (by decide) rfl ?_;refine aj h rfl ?_;refine ae (λc=>?_) λc=>?_
    ·exact hgo true (by have c:decide (x.2>v.2)=true:=c;rw[dI,c];simp)
    ·refine bT h h0 hi (bT h h0 hi ?_);refine eh h a i.toNat 0 x hx rfl (by decide) rfl ?_;refine eh h a i.toNat 1 x hx rfl (by decide) rfl ?_;exact hgo _ (by have c:decide (x.2>v.2)=false:=c;rw[hb0,dI,c];rfl)
  have hi:i.toNat=xs.length:=by simp at c;omega
  rw[hi,sC]at h2;have hbm:bad=!uC v upto xs:=by
   rw[h2,uC,Bool.not_and,xx];congr 1;by_cases hh:upto≤v.2
   ·rw[nM hh,tT (by omega)];rfl
   ·rw[tT hh,nM (by omega)];rfl
  refine ae (λc=>?_) λc=>?_
  ·have hm:uC v upto xs=false:=(by rw[show bad=true from c]at hbm;simpa using hbm.symm);have h:=(h.nil aE).jb b m0 c0 u mq s v.1 v.2;show au _ _ _ _ (oV b m0 c0 u mq v upto xs _);rw[oV,hm];exact au.aH ⟨rfl,rfl,rfl⟩ h.aK
  have hm:uC v upto xs=true:=by rw[show bad=false from c]at hbm;simpa using hbm.symm
  have h:=(h.nil aE).nil aE;have h:au w0 S R w (aQ s aE v.1^ah b (rL m0 c0 (eV u v.2) s mq)^aQ ⟨none,0,0⟩ aE []^aQ ⟨none,0,0⟩ aE []^aZ a KR xs):=h.aK;refine cZ (λ(y:Sl×Sl×Int)=>aQ s aE v.1^ah b (rL m0 c0 (eV u v.2) s mq)^aQ y.1 aE (eR upto xs (v.1.take y.2.2.toNat))^aQ y.2.1 aE (fM upto xs (v.1.take y.2.2.toNat))^aZ a KR xs)
   (λ(y:Sl×Sl×Int)=>0≤y.2.2∧y.2.2≤v.1.length) (λ(y:Sl×Sl×Int)=>v.1.length-y.2.2.toNat) h ⟨by simp,by simp⟩ ?_
  rintro(⟨rs,ts,i⟩:Sl×Sl×Int) w ⟨h0,h1⟩ h;dsimp only at h0 h1 h⊢;refine ac (aj h rfl ?_);refine ae (λc=>?_) λc=>?_
  ·have hi:i.toNat<v.1.length:=(by simp at c;omega);obtain⟨p,hp⟩:∃p,v.1[i.toNat]?=some p:=⟨_,bV hi⟩;have ht:=AN (upto:=upto) (xs:=xs) hp;have hrt:=AC (upto:=upto) (xs:=xs) hp;have hlt:=Ci upto xs v.1 i.toNat;have hlr:=qy upto xs v.1 i.toNat;have e:(i+1).toNat=i.toNat+1:=(by omega);rw[fu (n:=i+1)];refine ac (aj h rfl ?_);refine bT h h0 hi ?_;refine eE h s i.toNat hp rfl ?_;refine aD h λn w h=>?_;refine aA h (by rfl) λw h=>?_;refine aS h (λ_=>ah n (Ks.mk aE p)^aQ s aE v.1^ah b (rL m0 c0 (eV u v.2) s mq)^aQ rs aE (eR upto xs (v.1.take i.toNat))^aQ ts aE (fM upto xs (v.1.take i.toNat))^aZ a KR xs)
    (λ(y:Bool×Bool)=>y.1=decide (p.2.1≤upto)∧y.2=(!yC p&&xs.any (tL p))) (λ(y:Bool×Bool) w hy h=>?_) ?_
   ·obtain⟨hy1,hy2⟩:=hy;refine aS h (λ(z:Sl)=>ah n (Ks.mk aE p)^aQ s aE v.1^ah b (rL m0 c0 (eV u v.2) s mq)^aQ rs aE (eR upto xs (v.1.take i.toNat))^aQ z aE (fM upto xs (v.1.take (i.toNat+1)))^aZ a KR xs) (λ_=>True) (λ(z:Sl) w _ h=>?_) ?_
    ·refine ae (λc=>?_) λc=>?_
     ·have hu:p.2.1≤upto:=(by rw[hy1]at c;simpa using c);rw[aF hu,qw]at hrt;refine⟨⟨⟨by show 0≤i+1;omega,by show i+1≤_;omega⟩,?_⟩,by show _-(i+1).toNat<_;omega⟩;show au _ _ _ _ (aQ s aE v.1^ah b (rL m0 c0 (eV u v.2) s mq)^aQ rs aE (eR upto xs (v.1.take (i+1).toNat))^aQ z aE (fM upto xs (v.1.take (i+1).toNat))^aZ a KR xs);rw[e,hrt];exact h.aK
     ·have hu:¬p.2.1≤upto:=(by rw[hy1]at c;simpa using c);rw[aw hu]at hrt;have hmk:pe upto xs p=if y.2 then yd p else p:=by rw[pe,sI,tT hu,Ah,hy2]
      refine aS h (λ_=>ah n (Ks.mk aE (pe upto xs p))^aQ s aE v.1^ah b (rL m0 c0 (eV u v.2) s mq)^aQ rs aE (eR upto xs (v.1.take i.toNat))^aQ z aE (fM upto xs (v.1.take (i.toNat+1)))^aZ a KR xs) (λ_=>True) (λ_ w _ h=>?_) ?_
      ·refine ay h rfl ?_;refine aD h λm w h=>?_;have h:=h.ct m aE [pe upto xs p] rfl (by simp);refine dF (K:=aE) (s:=rs) (x:=⟨some ⟨m,0⟩,1,1⟩) h rfl (by simp;omega) λs' w _ h=>?_;refine⟨⟨⟨by show 0≤i+1;omega,by show i+1≤_;omega⟩,?_⟩,by show _-(i+1).toNat<_;omega⟩;show au _ _ _ _ (aQ s aE v.1^ah b (rL m0 c0 (eV u v.2) s mq)^aQ s' aE (eR upto xs (v.1.take (i+1).toNat))^aQ z aE (fM upto xs (v.1.take (i+1).toNat))^aZ a KR xs);rw[e,hrt];exact h.aK
      ·refine ae (λc2=>?_) λc2=>?_
       ·have c2:y.2=true:=c2;rw[c2,aF rfl]at hmk;refine be h rfl λw h=>?_;refine be h rfl λw h=>?_;have h:au w0 S R w (ah n (Ks.mk aE (yd p))^_):=h;rw[←hmk]at h;exact⟨trivial,h.aK⟩
       ·have c2:y.2=false:=c2;rw[c2,aw (by simp)]at hmk;exact⟨trivial,by rw[hmk];exact h⟩
    ·refine aS h (λ_=>ah n (Ks.mk aE p)^aQ s aE v.1^ah b (rL m0 c0 (eV u v.2) s mq)^aQ rs aE (eR upto xs (v.1.take i.toNat))^aQ ts aE (fM upto xs (v.1.take i.toNat))^aZ a KR xs) (λ(z:Bool)=>z=sI upto xs p) (λ(z:Bool) w hz h=>?_) ?_
     ·refine ae (λc=>?_) λc=>?_
      ·have c:z=true:=c;rw[←hz,c,aF rfl]at ht;refine ay h rfl ?_;refine aD h λm w h=>?_;have h:=h.ct m aE [p] rfl (by simp);refine dF (K:=aE) (s:=ts) (x:=⟨some ⟨m,0⟩,1,1⟩) h rfl (by simp;omega) λs' w _ h=>?_;rw[ht];exact⟨trivial,h.aK⟩
      ·have c:z=false:=c;rw[←hz,c]at ht;simp only[js,jt,qw]at ht;rw[ht];exact⟨trivial,h⟩
     ·refine ae (λc=>?_) λc=>?_
      ·have c:y.1=true:=c;refine aj h rfl ?_;refine⟨?_,h⟩;show(!yC p||(!y.1&&y.2))=_;rw[c]at hy1⊢;rw[sI,←hy1];simp
      ·have c:y.1=false:=c;refine⟨?_,h⟩;show(!y.1&&y.2)=_;rw[c]at hy1⊢;rw[sI,←hy1,hy2];simp
   ·refine aM h λw h=>?_;refine aj h rfl (aj h rfl ?_);refine ae (λc=>?_) λc=>?_
    ·have c:(!yC p)=true:=c;refine ay h rfl ?_;refine bR (A:=bg) (Q:=aZ a KR xs) (DG p a xs hx) (h.le (aG _ |>.trans (aU _ _))) λr w h=>?_;obtain⟨hr,h⟩:=h.aP;refine aN h rfl ?_;exact⟨⟨rfl,by show r=_;rw[hr,c];rfl⟩,h.aK⟩
    ·have c:(!yC p)=false:=c;exact⟨⟨rfl,by show false=_;rw[c];rfl⟩,h⟩
  have hi:i.toNat=v.1.length:=by simp at c;omega
  rw[hi,sC]at h;have hrl:(eR upto xs v.1).length≤v.1.length:=by
   have:=qy upto xs v.1 v.1.length;rwa[sC]at this
  generalize hL:eR upto xs v.1=L at h hrl;have hlen:=((h.take (aQ rs aE L)).rd (s:=rs)).2;have hwn:i64.wrap (((rs.len:Nat):Int)-1)=(L.length:Int)-1:=by rw[hlen];exact fu
  rw[hwn];have e1:cI (L.drop ((L.length:Int)-1+1).toNat)=([],0,0):=by
   have e:((L.length:Int)-1+1).toNat=L.length:=(by omega);rw[e];simp[cI]
  have e0:L.take ((L.length:Int)-1+1).toNat++(cI (L.drop ((L.length:Int)-1+1).toNat)).1=L:=by rw[e1,qw,kF (by omega)]
  have h:au w0 S R w (aQ rs aE (L.take ((L.length:Int)-1+1).toNat++(cI (L.drop ((L.length:Int)-1+1).toNat)).1)^ah b (rL m0 c0 (eV u v.2) s mq)^aQ ts aE (fM upto xs v.1)):=by rw[e0];exact h.aK
  refine cZ (λ(y:Int×Int×Int)=>aQ rs aE (L.take (y.2.2+1).toNat++(cI (L.drop (y.2.2+1).toNat)).1)^ah b (rL m0 c0 (eV u v.2) s mq)^aQ ts aE (fM upto xs v.1))
   (λ(y:Int×Int×Int)=>(-1≤y.2.2∧y.2.2<L.length)∧y.1=(cI (L.drop (y.2.2+1).toNat)).2.1∧y.2.1=(cI (L.drop (y.2.2+1).toNat)).2.2) (λ(y:Int×Int×Int)=>(y.2.2+1).toNat) h ⟨⟨by show(-1:Int)≤_-1;omega,by show _-1<_;omega⟩,by rw[e1],by rw[e1]⟩ ?_
  rintro(⟨bn,above,i⟩:Int×Int×Int) w ⟨⟨h0,h1⟩,h2,h3⟩ h;dsimp only at h0 h1 h2 h3 h⊢;refine ae (λc=>?_) λc=>?_
  ·have c:0≤i:=cS;obtain⟨k,hk⟩:∃k:Nat,i=k:=⟨i.toNat,by omega⟩;have hk1:(i+1).toNat=k+1:=(by omega);have hk0:i.toNat=k:=(by omega);have hk2:(i-1+1).toNat=k:=(by omega);have hkl:k<L.length:=(by omega);rw[hk1]at h2 h3 h;obtain⟨p,hp⟩:∃p,L[k]?=some p:=⟨_,bV hkl⟩;have hd:=qG hp;have ht:L.take (k+1)=L.take k++[p]:=(by rw[lC,hp];rfl);have hlt:(L.take k).length=k:=(by rw[fU];omega);have hpass:cI (L.drop k)=(if xg p above then iG p true::(cI (L.drop (k+1))).1 else p::(cI (L.drop (k+1))).1,if xg p above then u64.wrap (bn+u64.wrap (p.2.1-p.1))else bn,yS p above):=(by rw[hd,cI,h2,h3]);obtain⟨ys,hys⟩:∃ys,ys=L.take (k+1)++(cI (L.drop (k+1))).1:=⟨_,rfl⟩;have hxk:ys[i.toNat]?=some p:=(by rw[hk0,hys,pk (by rw[fU];omega),pn,aF (by omega),hp]);have hxl:i.toNat<ys.length:=(ie.1 hxk).1;rw[←hys]at h;have hw:i64.wrap (i-1)=i-1:=fu;rw[hw];have hgo:∀(w:World) (m n:Int) (zs:List Pc),zs=L.take k++(cI (L.drop k)).1→m=(cI (L.drop k)).2.1→n=(cI (L.drop k)).2.2→au w0 S R w (aQ rs aE zs^ah b (rL m0 c0 (eV u v.2) s mq)^aQ ts aE (fM upto xs v.1))→
     (((-1≤(m,n,i-1).2.2∧(m,n,i-1).2.2<L.length)∧(m,n,i-1).1=(cI (L.drop ((m,n,i-1).2.2+1).toNat)).2.1∧(m,n,i-1).2.1=(cI (L.drop ((m,n,i-1).2.2+1).toNat)).2.2)∧au w0 S R w (aQ rs aE (L.take ((m,n,i-1).2.2+1).toNat++(cI (L.drop ((m,n,i-1).2.2+1).toNat)).1)^ah b (rL m0 c0 (eV u v.2) s mq)^aQ ts aE (fM upto xs v.1)))∧((m,n,i-1).2.2+1).toNat<((bn,above,i).2.2+1).toNat:=by
    intro w m n zs hz hm hn h;dsimp only;rw[hk2,←hz];exact⟨⟨⟨⟨by omega,by omega⟩,hm,hn⟩,h⟩,by omega⟩
   refine bT h c hxl (ac ?_);refine eh h rs i.toNat 7 p hxk rfl (by decide) rfl ?_;refine ae (λc2=>?_) λc2=>?_
   ·have c2:yC p=true:=c2;have hh:xg p above=false:=(by simp[xg,lE,c2]);have hab:yS p above=i64.wrap (above+1):=(by rw[yS,aF c2]);rw[hh]at hpass;simp only[js,jt]at hpass;exact hgo w _ _ ys (by rw[hpass,hys,ht];simp) (by rw[hpass]) (by rw[hpass];exact hab.symm) h
   ·have c2:yC p=false:=c2;have hab:yS p above=above:=(by rw[yS,aw (by rw[c2];simp)]);have hh:xg p above=(!jP p&&decide (above≥3)):=(by rw[xg,lE,c2,hab];rfl);refine ac ?_;refine eh h rs i.toNat 8 p hxk rfl (by decide) rfl ?_;refine ae (λc3=>?_) λc3=>?_
    ·have c3:(!jP p&&decide (above≥3))=true:=c3;rw[hh,c3]at hpass;simp only[iF]at hpass;refine ac (mE h rs i.toNat 8 p (iG p true) hxk rfl (by decide) (by simp) rfl λw h=>?_);have hset:ys.set i.toNat (iG p true)=L.take k++(cI (L.drop k)).1:=by
      rw[hpass,hys,hk0,ht,iD,G9 _ _ (by omega),hlt];simp
     have hx2:(ys.set i.toNat (iG p true))[i.toNat]?=some (iG p true):=(by rw[sB hxl]);refine aM h λw h=>?_;refine ac (ac ?_);refine eh h rs i.toNat 1 _ hx2 rfl (by decide) rfl ?_;refine eh h rs i.toNat 0 _ hx2 rfl (by decide) rfl ?_;refine hgo w _ _ _ hset ?_ (by rw[hpass,hab]) h;rw[hpass];exact Ic bn p.2.1 p.1
    ·have c3:(!jP p&&decide (above≥3))=false:=c3;rw[hh,c3]at hpass;simp only[js,jt]at hpass;exact hgo w _ _ ys (by rw[hpass,hys,ht];simp) (by rw[hpass]) (by rw[hpass,hab]) h
  ·have c:i=-1:=(by simp at c;omega);rw[c]at h2 h3 h;simp only[show((-1:Int)+1).toNat=0 from rfl,vX,Dy,po]at h2 h;refine ac (aB h b (rL m0 c0 (eV u v.2) rs mq) rfl rfl rfl λw h=>?_);have h:=h.jb b m0 c0 u mq rs (cI L).1 v.2;show au _ _ _ _ (oV b m0 c0 u mq v upto xs _);rw[oV,hm,hL];exact au.aH ⟨h2,rfl⟩ h.aK
end PC

namespace Ld
open bK bp ik fg gT fQ yK F6 eX ga eC lL mS oq Ls Tv PC
theorem QG(m:Int):(if(if(9000:Int)<m then(9000:Int)else m)>(100:Int)then(if(9000:Int)<m then(9000:Int)else m)else(100:Int))=bm m:=by unfold bm;(repeat' split)<;>omega
theorem QF(m:Int):bm (bm m)=bm m:=by
 have h:=rT m;generalize bm m=c at*
 unfold bm;(repeat' split)<;>omega
theorem YI(aY m:Int):wv aY (bm m)=wv aY m:=by unfold wv;rw[QF]
theorem OS(aY bs:Int)(hr:U aY):bx (Uv aY bs) bg (λr=>br (r=wv aY bs) bg):=
 bF λw0 S R h=>by
  rw[QG];have hm:=rT bs;have ht:=sM aY bs hr.1;unfold U at hr;have em:u64.wrap (bm bs)=bm bs:=iy;rw[em];have hk:7≤65536/bm bs:=by rw[De (by omega)];omega
  have hk9:65536/bm bs≤65536:=Ae _ (by decide);have eq1:u64.wrap (aY.tdiv 1024)=aY/1024:=by rw[l_ hr.1];exact iy
  have hq0:0≤aY/1024/bm bs:=Dr (by omega) (by omega);have hq1:aY/1024/bm bs≤aY/1024:=Ae _ (by omega);have eq2:u64.wrap ((aY/1024).tdiv (bm bs))=aY/1024/bm bs:=by rw[l_ (by omega)];exact iy
  have eq3:u64.wrap (i64.wrap ((65536:Int).tdiv (bm bs)))=65536/bm bs:=by rw[l_ (by decide),fu];exact iy
  rw[eq1,eq2,eq3];obtain⟨y0,hy0⟩:∃y0,y0=aY/1024/bm bs:=⟨_,rfl⟩;obtain⟨k,hkk⟩:∃k,k=65536/bm bs:=⟨_,rfl⟩;have et:wv aY bs=(if(if y0<2 then 2 else y0)>k then k else(if y0<2 then 2 else y0))*bm bs:=by unfold wv;rw[←hy0,←hkk]
  rw[←hy0,←hkk];rw[←hkk]at hk hk9;have e2:(if(if k<y0 then k else y0)>2 then(if k<y0 then k else y0)else 2)=(if(if y0<2 then 2 else y0)>k then k else(if y0<2 then 2 else y0)):=by (repeat' split)<;>omega
  rw[e2];rw[et]at ht;obtain⟨z,hz⟩:∃z,z=(if(if y0<2 then 2 else y0)>k then k else(if y0<2 then 2 else y0)):=⟨_,rfl⟩;have hz2:2≤z∧z≤k:=by rw[hz];(repeat' split)<;>omega
  rw[←hz]at ht⊢;rw[fu (n:=z),fu (n:=z*bm bs)];exact⟨by omega,by omega,au.aH (by rw[et,←hz]) h⟩
abbrev Lp(m:Md)(u:Rm):Prop:=u.m=m∧Rel u∧u.g=fE m
theorem AF(b mb nw)(m0 c0:Int)(v sl u)(hu:u.m=v.md)(hr:U v.md.aY)(hm:v.bs=bm m0):bx (JG (some ⟨b,0⟩)) (ah b (rL m0 c0 v sl mb)^ah mb (ad.db nw u)^ah nw (ad.d_ u.m.w)) (λr=>br (r=bu v) (ah b (rL m0 c0 v sl mb)^ah mb (ad.db nw u)^ah nw (ad.d_ u.m.w))):=
 bF λw0 S R h=>by
  have hr':U u.m.aY:=by rw[hu];exact hr
  refine aM h λw h=>ac (ac (aj (x:=some ⟨mb,0⟩) h rfl (aj (x:=m0) h rfl (ac (aj (x:=u.m.aY) h rfl ?_)))));refine aq (OS u.m.aY m0 hr') (h.le ((aG _).trans (aU _ _))) λr w h=>?_;obtain⟨hr1,h⟩:=h.aP;exact au.aH (by rw[hr1,hu];unfold bu;rw[hm,YI]) h.drop
theorem On{b mb nw:Nat}{m0 c0:Int}{v:Sk}{u:Rm}{w0 w:World}{S0 R0:Nat→Prop}{G:SP}{K:WP}(hv:pR v)(hu:Lp v.md u)(hm:v.bs=bm m0){af bn:Int}(hn:U af)(hlo:U bn)
  (h:au w0 S0 R0 w (kj b m0 c0 v mb v.bd^(ah mb (ad.db nw u)^ah nw (ad.d_ u.m.w))^G))
  (k:∀w' u',Lp (jX v af bn).md u'→au w0 S0 R0 w' (kj b m0 c0 (jX v af bn) mb v.bd^(ah mb (ad.db nw u')^ah nw (ad.d_ u'.m.w))^G)→K w'):
  az (some ⟨b,0⟩) (λq15=>az (some ⟨b,0⟩) λq16=>az (some ⟨b,0⟩) λq17=>ld [.ptr] ⟨q15.b,q15.o+20⟩ λ(x18:bO)=>
   call Tryz.prog ol [.lf (.ptr (some ⟨q17.b,q17.o+7⟩))] [.lf (.int .u64)] λ(r19:Int)=>
   cw ⟨q15.b,q15.o+20⟩ (Ks.mk [.ptr] x18)<|
   call Tryz.prog oi [.lf (.ptr (some ⟨q16.b,q16.o+9⟩)),.lf (.int .u64 af),.lf (.int .u64 bn),.lf (.int .u64 r19)] [.agg aW] λ(r20:jT)=>
   cw ⟨q15.b,q15.o+20⟩ (Ks.mk [.ptr] x18)<|
   call Tryz.prog qC [.lf (.ptr (some ⟨b,0⟩))] [.lf (.int .i64)] λ(r21:Int)=>
   cw ⟨q15.b,q15.o+20⟩ (Ks.mk [.ptr] x18)<|
   call Tryz.prog oh [.lf (.ptr x18),.agg (Ks.mk aW r20),.lf (.int .u64 (u64.wrap r21))] [.agg eH] λ_=>K) w:=by
 obtain⟨hu1,hu2,hu3⟩:=hu;have hbl:v.bd.1.length≤4294967296:=by have:=hv.bl;omega
 have hts:=sM v.md.aY v.bs hv.md.aY.1;have ew:u64.wrap (bu v)=bu v:=wu (by unfold bu;omega) (by unfold bu;omega);have hft:U (c_ v):=hv.fl;obtain⟨v1,hv1⟩:∃v1:Sk,v1={v with sp:=(gh v.sp af bn (c_ v)).2}:=⟨_,rfl⟩;have et:bu v1=bu v:=by rw[hv1];rfl
 obtain⟨s,h⟩:=h.kj (m0:=m0) (c0:=c0) (u:=v) (mq:=mb) (v:=v.bd) b;refine ac (ac (ac (aj (x:=some ⟨mb,0⟩) h rfl ?_)));have h:au w0 S0 R0 w (kj b m0 c0 v mb v.bd^(ah mb (ad.db nw u)^ah nw (ad.d_ u.m.w))^G):=(h.jb b m0 c0 v mb s v.bd.1 v.bd.2).aK;refine aI (qO b m0 c0 v mb v.bd hbl) h λw h=>?_;obtain⟨s,h⟩:=h.kj (m0:=m0) (c0:=c0) (u:=v) (mq:=mb) (v:=v.bd) b;have h:au w0 S0 R0 w (ah b (rL m0 c0 v s mb)^aQ s aE v.bd.1^(ah mb (ad.db nw u)^ah nw (ad.d_ u.m.w))^G):=h;refine aN h rfl (aI (HP b m0 c0 v s mb af bn (c_ v) hv.sp hn) h λw h=>?_);have h:au w0 S0 R0 w (ah b (rL m0 c0 v1 s mb)^aQ s aE v.bd.1^(ah mb (ad.db nw u)^ah nw (ad.d_ u.m.w))^G):=by rw[hv1];exact h
 refine aN h rfl (aq (AF b mb nw m0 c0 v1 s u (by rw[hv1];exact hu1) (by rw[hv1];exact hv.md.aY) (by rw[hv1];exact hm)) h λr w h=>?_);obtain⟨hr,h⟩:=h.aP;rw[hr,et,ew];refine aN h rfl (aq (Kz mb nw u (by rw[hu1];exact hv.md) hu2 (gh v.sp af bn (c_ v)).1 (yH hv.sp hn hlo hv.fl) (bu v) ⟨by unfold bu;omega,by unfold bu;omega⟩) h λr w h=>?_);obtain⟨u',⟨g1,g2,g3,_⟩,h⟩:=h.vQ;have h:au w0 S0 R0 w (ah b (rL m0 c0 {v with sp:=(gh v.sp af bn (c_ v)).2} s mb)^aQ s aE v.bd.1^(ah mb (ad.db nw u')^ah nw (ad.d_ u'.m.w))^G):=by rw[←hv1];exact h.aK
 have h:au w0 S0 R0 w (ah b (rL m0 c0 (eV (jX v af bn) v.bd.2) s mb)^aQ s aE v.bd.1^(ah mb (ad.db nw u')^ah nw (ad.d_ u'.m.w))^G):=h;refine k w u' ⟨by rw[g1,hu1];rfl,g2,by rw[g3,g1,hu1];rfl⟩ (h.jb b m0 c0 (jX v af bn) mb s v.bd.1 v.bd.2).aK
def mn(b:Nat)(m0 c0:Int)(v:Sk):SP:=yj (λx:Nat×Nat×Rm=>Lp v.md x.2.2) (λx=>(λmb nw u=>kj b m0 c0 v mb v.bd^(ah mb (ad.db nw u)^ah nw (ad.d_ u.m.w))) x.1 x.2.1 x.2.2)
instance(b:Nat)(m0 c0:Int)(v:Sk):nt (mn b m0 c0 v):=by unfold mn;infer_instance
section
variable {w0 w:World} {S0 R0:Nat→Prop} {F G:SP}
theorem _root_.Go.X.au.mn(h:au w0 S0 R0 w F)(b){m0 c0:Int}[tk:Take (Ld.mn b m0 c0 v) F G]:∃(mb nw:Nat) (u:Rm),Lp v.md u∧au w0 S0 R0 w (kj b m0 c0 v mb v.bd^(ah mb (ad.db nw u)^ah nw (ad.d_ u.m.w))^G):=by
 obtain⟨⟨mb,nw,u⟩,hu,h⟩:=(h.le tk.le).vQ;exact⟨mb,nw,u,hu,h.aK⟩
theorem _root_.Go.X.au.xZ(h:au w0 S0 R0 w F)(b)(m0 c0:Int)(v mb nw u)(hu:Lp v.md u)[tk:Take (kj b m0 c0 v mb v.bd^(ah mb (ad.db nw u)^ah nw (ad.d_ u.m.w))) F G]:au w0 S0 R0 w (Ld.mn b m0 c0 v^G):=
 au.r_ (f:=λx:Nat×Nat×Rm=>(λmb nw u=>kj b m0 c0 v mb v.bd^(ah mb (ad.db nw u)^ah nw (ad.d_ u.m.w))) x.1 x.2.1 x.2.2) h (mb,nw,u) hu
end
theorem Ca(b)(m0 c0:Int)(v)(hv:pR v)(hm:v.bs=bm m0)(af:Int)(hn:U af):bx (Z5 (some ⟨b,0⟩) af) (mn b m0 c0 v) (λ_=>mn b m0 c0 (iz v af)):=
 bF λw0 S R h=>by
  have hbl:v.bd.1.length≤4294967295:=by have:=hv.bl;omega
  obtain⟨mb,nw,u,hu,h⟩:=(h.le (aG _)).mn b (m0:=m0) (c0:=c0) (v:=v);refine ac (aI (Hv b m0 c0 v mb v.bd hbl) h λw h=>?_);refine aM h λw h=>?_;refine On (v:={v with bd:=(v.bd.1.map fj,v.bd.2)}) (b:=b) (mb:=mb) (nw:=nw) (G:=bg) (pR.yl hv) hu hm hn hv.fl h λw u' hu' h=>?_;have h:au w0 S R w (kj b m0 c0 (iz v af) mb (iz v af).bd^(ah mb (ad.db nw u')^ah nw (ad.d_ u'.m.w))^bg):=h;exact(h.xZ b m0 c0 (iz v af) mb nw u' hu').bq
end Ld

namespace RsG
open bK bp ik fg gT fQ yK F6 eX ga eC lL mS oq ny Ls Tv WX PC Ld
abbrev KR:Ks:=[.int .u64,.int .u64]
theorem Jv{af:Int}{s:Sp}{l:List Pc}{i:Nat}{q:Pc}(h:l[i]?=some q):rp af s (l.take (i+1))=sH af (rp af s (l.take i)) q:=by
 unfold rp;rw[lC,h,List.foldl_append]
 rfl
theorem FD(b)(m0 c0:Int)(v)(hv:pR v)(hp:Co v.bd.1)(hm:v.bs=bm m0)(af upto:Int)(hn:U af)(a xs)(hx:xs.length≤4294967296):bx (Z4 (some ⟨b,0⟩) af upto a) (mn b m0 c0 v^aZ a KR xs) (λr=>br (r=(nP v af upto xs).1) (mn b m0 c0 (nP v af upto xs).2)):=
 bF λw0 S R h=>by
  have hbl:v.bd.1.length≤4294967295:=by have:=hv.bl;omega
  obtain⟨mb,nw,u,hu,h⟩:=h.mn b (m0:=m0) (c0:=c0) (v:=v);have t:=Ko b m0 c0 v mb v.bd upto a xs hbl hx;cases hc:uC v.bd upto xs with
  |false=>
   have e:nP v af upto xs=(11,v):=(by unfold nP;rw[aw (by rw[hc];intro c;cases c)]);rw[e];have t:bx (LQ (some ⟨b,7⟩) upto a) (kj b m0 c0 v mb v.bd^aZ a KR xs) (λr=>br (r.1=⟨none,0,0⟩∧r.2.1=0∧r.2.2=11) (aQ r.1 aE []^kj b m0 c0 v mb v.bd)):=by
    unfold oV at t;rw[hc]at t;exact t
   refine ac (bR (Q:=aZ a KR xs) t h λr w h=>?_);obtain⟨r1,r2,r3⟩:=r;obtain⟨⟨_,_,h3⟩,h⟩:=h.aP;dsimp only at h3 h⊢;refine ae (λ_=>?_) λc=>(by rw[h3]at c;cases c);rw[h3];have h:au w0 S R w (kj b m0 c0 v mb v.bd^(ah mb (ad.db nw u)^ah nw (ad.d_ u.m.w))^bg):=h.aK;exact au.aH rfl (h.xZ b m0 c0 v mb nw u hu).bq
  |true=>
   have e:nP v af upto xs=(0,jX (kZ v af upto xs) af (cI (eR upto xs v.bd.1)).2.1):=(by unfold nP;rw[aF hc]);rw[e];have t:bx (LQ (some ⟨b,7⟩) upto a) (kj b m0 c0 v mb v.bd^aZ a KR xs) (λr=>br (r.2.1=(cI (eR upto xs v.bd.1)).2.1∧r.2.2=0) (aQ r.1 aE (fM upto xs v.bd.1)^kj b m0 c0 v mb ((cI (eR upto xs v.bd.1)).1,v.bd.2))):=by
    unfold oV at t;rw[hc]at t;exact t
   refine ac (bR (Q:=aZ a KR xs) t h λr w h=>?_);obtain⟨r1,r2,r3⟩:=r;obtain⟨⟨h2,h3⟩,h⟩:=h.aP;dsimp only at h2 h3 h⊢;refine ae (λc=>(by rw[h3]at c;cases c)) λ_=>?_;obtain⟨L,hL⟩:∃L,L=fM upto xs v.bd.1:=⟨_,rfl⟩;obtain⟨P,hP⟩:∃P,P=(cI (eR upto xs v.bd.1)).1:=⟨_,rfl⟩;rw[←hL,←hP]at h;have hLen:L.length≤4294967295:=by
    rw[hL];exact kH (FB _ _) hbl
   have h:au w0 S R w (kj b m0 c0 v mb (P,v.bd.2)^aQ r1 aE L^(ah mb (ad.db nw u)^ah nw (ad.d_ u.m.w))^bg):=h.aK;obtain⟨s,h⟩:=h.kj (m0:=m0) (c0:=c0) (u:=v) (mq:=mb) (v:=(P,v.bd.2)) b;have h:au w0 S R w (ah b (rL m0 c0 v s mb)^aQ s aE P^aQ r1 aE L^(ah mb (ad.db nw u)^ah nw (ad.d_ u.m.w))^bg):=h;refine ac (aq (Hx b m0 c0 v s mb upto) h λr w h=>?_);obtain⟨_,h⟩:=h.aP;have hr1:=(au.rd (s:=r1) (K:=aE) (xs:=L) h).2;have hLs:Co L:=(by rw[hL];exact pq hp);have h:au w0 S R w (ah b (rL m0 c0 {v with bf:=(tD v.bf upto).2,sp:=rp af v.sp (L.take (0:Int).toNat)} s mb)^aQ s aE P^aQ r1 aE L^(ah mb (ad.db nw u)^ah nw (ad.d_ u.m.w))^bg):=h;refine cZ (λi:Int=>ah b (rL m0 c0 {v with bf:=(tD v.bf upto).2,sp:=rp af v.sp (L.take i.toNat)} s mb)^aQ s aE P^aQ r1 aE L^(ah mb (ad.db nw u)^ah nw (ad.d_ u.m.w))^bg) (λi:Int=>0≤i∧i≤L.length) (λi:Int=>L.length-i.toNat) h ⟨ig 0,by omega⟩ ?_;rintro(i:Int) w ⟨i0,i1⟩ h;refine ae (λc=>?_) λc=>?_
   ·have c:i<((r1.len:Nat):Int):=bZ c;have hi:i.toNat<L.length:=(by omega);obtain⟨q,hq⟩:∃q,L[i.toNat]?=some q:=⟨_,bV hi⟩;have hqm:=jr hq;have hsp:pS (rp af v.sp (L.take i.toNat)):=Cu hn _ _ hv.sp λz hz=>hLs z (Dl hz);have ei:(i+1).toNat=i.toNat+1:=(by omega);refine aM h λw h=>ac ?_;have hA:=h.take (aQ r1 aE L);refine bT (s:=r1) hA i0 hi (bT (s:=r1) hA i0 hi (bT (s:=r1) hA i0 hi ?_));refine eh hA r1 i.toNat 1 q hq rfl (by decide) (x:=q.2.1) rfl (eh hA r1 i.toNat 0 q hq rfl (by decide) (x:=q.1) rfl (eh hA r1 i.toNat 2 q hq rfl (by decide) (x:=Ta q) rfl ?_));refine aq (FL b m0 c0 {v with bf:=(tD v.bf upto).2,sp:=rp af v.sp (L.take i.toNat)} s mb af (u64.wrap (q.2.1-q.1)) (Ta q) hsp hn (ub _) (hLs q hqm)) h λ_ w h=>?_;rw[fu (n:=i+1)];refine⟨⟨⟨by show(0:Int)≤i+1;omega,by show i+1≤_;omega⟩,?_⟩,by show L.length-(i+1).toNat<_;omega⟩;show au w0 S R w (ah b (rL m0 c0 {v with bf:=(tD v.bf upto).2,sp:=rp af v.sp (L.take (i+1).toNat)} s mb)^_);rw[ei,Jv hq];exact h
   ·have c:¬i<((r1.len:Nat):Int):=cd c;have ei:L.take i.toNat=L:=kF (by omega);rw[ei]at h;have eT:kZ v af upto xs={v with bd:=(P,v.bd.2),bf:=(tD v.bf upto).2,sp:=rp af v.sp L}:=(by unfold kZ;rw[hL,hP]);have hm2:(kZ v af upto xs).bs=bm m0:=hm;have hu2:Lp (kZ v af upto xs).md u:=hu;have h:au w0 S R w (kj b m0 c0 (kZ v af upto xs) mb (kZ v af upto xs).bd^(ah mb (ad.db nw u)^ah nw (ad.d_ u.m.w))^aQ r1 aE L):=by
     rw[eT];have h:au w0 S R w (ah b (rL m0 c0 (eV {v with bd:=(P,v.bd.2),bf:=(tD v.bf upto).2,sp:=rp af v.sp L} v.bd.2) s mb)^aQ s aE P^aQ r1 aE L^(ah mb (ad.db nw u)^ah nw (ad.d_ u.m.w))^bg):=h;exact(h.jb b m0 c0 {v with bd:=(P,v.bd.2),bf:=(tD v.bf upto).2,sp:=rp af v.sp L} mb s P v.bd.2).aK
    rw[h2];refine aM h λw h=>?_;refine On (v:=kZ v af upto xs) (b:=b) (mb:=mb) (nw:=nw) (G:=aQ r1 aE L) (AO hv hp hn upto xs) hu2 hm2 hn (zR _) h λw u' hu' h=>?_;have h:au w0 S R w (kj b m0 c0 (jX (kZ v af upto xs) af (cI (eR upto xs v.bd.1)).2.1) mb (jX (kZ v af upto xs) af (cI (eR upto xs v.bd.1)).2.1).bd^(ah mb (ad.db nw u')^ah nw (ad.d_ u'.m.w))^aQ r1 aE L):=h;exact au.aH rfl (h.xZ b m0 c0 (jX (kZ v af upto xs) af (cI (eR upto xs v.bd.1)).2.1) mb nw u' hu').bq
end RsG

namespace YU
open bK bp ik fg gT fQ yK F6 eX ga eC lL oo mS oq ny Ls Xp Tv WX PC Ld
abbrev KR:Ks:=[.int .u64,.int .u64]
def Ol(b n1 n4:Nat)(o:Int)(ag:Bool)(R:Rs.T [.agg KS,.lf (.int .i64)]→WP):WP:=
 ld [.int .u64] ⟨n4,1⟩ λ(x56:Int)=>
 ld [.int .u64] ⟨n4,0⟩ λ(x57:Int)=>
 bQ<|
 az (some ⟨b,0⟩) λq58=>
 ld [.int .u64] ⟨n4,0⟩ λ(x59:Int)=>
 az (some ⟨b,0⟩) λq60=>
 ld [.int .i64] q58 λ(x61:Int)=>
 ld [.int .u64] ⟨q60.b,q60.o+22⟩ λ(x62:Int)=>
 new [aJ (0:Int),aC (0:Int),aJ (0:Int),aC (0:Int),a_ false] λn63=>
 cw ⟨q60.b,q60.o+22⟩ (Ks.mk [.int .u64] x62)<|
 cw q58 (Ks.mk [.int .i64] x61)<|
 cw ⟨n4,0⟩ (Ks.mk [.int .u64] x59)<|
 st ⟨n63,0⟩ [aJ x61,aC x59,aJ (i64.wrap (u64.wrap (x56-x57))),aC (if x62>o then x62 else o),a_ ag]<|
 bQ<|
 ld [.int .u64] ⟨n63,3⟩ λ(x64:Int)=>
 az (some ⟨b,0⟩) λq65=>
 ld [.ptr] ⟨q65.b,q65.o+20⟩ λ(x66:bO)=>
 az x66 λq67=>
 ld [.int .u64] ⟨q67.b,q67.o+24⟩ λ(x68:Int)=>
 call Tryz.prog tz [.lf (.int .i64 (i64.wrap (u64.wrap (x56-x57)))),.lf (.int .u64 x68)] [.lf (.int .u64)] λ(r69:Int)=>
 cw ⟨n63,3⟩ (Ks.mk [.int .u64] x64)<|
 call Tryz.prog oQ [.lf (.int .u64 x64),.lf (.int .u64 r69)] [.lf (.int .u64)] λ(r70:Int)=>
 az (some ⟨b,0⟩) λq71=>
 st ⟨q71.b,q71.o+22⟩ [aC r70]<|
 az (some ⟨b,0⟩) λq72=>
 ld [.int .u64] ⟨q72.b,q72.o+21⟩ λ(x73:Int)=>
 call Tryz.prog oQ [.lf (.int .u64 x73),.lf (.int .u64 (u64.wrap (i64.wrap (u64.wrap (x56-x57)))))] [.lf (.int .u64)] λ(r74:Int)=>
 az (some ⟨b,0⟩) λq75=>
 st ⟨q75.b,q75.o+21⟩ [aC r74]<|
 ld KS ⟨n63,0⟩ λ(x76:Ks.T KS)=>
 st ⟨n1,0⟩ (Ks.mk KS x76)<|
 ld KS ⟨n1,0⟩ λ(x77:Ks.T KS)=>
 R (x77,(0:Int))
theorem WL{w0 w:World}{S0 R0:Nat→Prop}{G:SP}{R:Rs.T [.agg KS,.lf (.int .i64)]→WP}{b n1 n4 mb nw:Nat}{m0 c0:Int}{v:Sk}{u:Rm}{af x y:Int}{ag:Bool}(hu:u.m=v.md)(hm:gp v.md)(hn:U af)(hnx:U v.nx)(hab:0≤y-x∧y-x≤65536)(ho:0≤v.out∧v.out+65536<18446744073709551616)
  (h:au w0 S0 R0 w (ah n1 zS^ah n4 [aC x,aC y]^kj b m0 c0 v mb v.bd^(ah mb (ad.db nw u)^ah nw (ad.d_ u.m.w))^G))
  (k:∀w',au w0 S0 R0 w' (kj b m0 c0 (lr v (x,y) ag af).2 mb v.bd^(ah mb (ad.db nw u)^ah nw (ad.d_ u.m.w))^G)→R ((lr v (x,y) ag af).1,0) w'):Ol b n1 n4 af ag R w:=by
 unfold Ol;have e1:u64.wrap (y-x)=y-x:=iy;have e2:i64.wrap (y-x)=y-x:=fu;have hst:U (if v.nx>af then v.nx else af):=by split;exact hnx;exact hn
 have hD:U (dZ (y-x) v.md.aY):=oU (by omega) hm.aY;obtain⟨s,h⟩:=h.kj (m0:=m0) (c0:=c0) (u:=v) (mq:=mb) (v:=v.bd) b;have h:au w0 S0 R0 w (ah b (rL m0 c0 v s mb)^aQ s aE v.bd.1^ah n1 zS^ah n4 [aC x,aC y]^(ah mb (ad.db nw u)^ah nw (ad.d_ u.m.w))^G):=h;refine aj (x:=y) h rfl (aj (x:=x) h rfl (aM h λw h=>ac (aj (x:=x) h rfl (ac (aj (x:=v.id) h rfl (aj (x:=v.nx) h rfl (aD h λn63 w h=>?_)))))));refine aN h rfl (aN h rfl (aN h rfl ?_));rw[e1,e2];refine aA h (by rfl) λw h=>aM h λw h=>aj (x:=if v.nx>af then v.nx else af) h rfl (ac (aj (x:=some ⟨mb,0⟩) h rfl (ac (aj (x:=u.m.aY) h rfl ?_))));rw[hu];refine aI (uK (y-x) v.md.aY (by omega) hm.aY) (h.le ((aG _).trans (aU _ _))) λw h=>?_;have h:=h.drop;refine aN h rfl (aI (fL _ _ hst hD) (h.le ((aG _).trans (aU _ _))) λw h=>?_);have h:=h.drop;refine ac (aB h b (rL m0 c0 {v with nx:=bH (if v.nx>af then v.nx else af) (dZ (y-x) v.md.aY)} s mb) rfl rfl rfl λw h=>?_);refine ac (aj (x:=v.out) h rfl ?_);rw[e1];refine aq (fL v.out (y-x) ⟨ho.1,by omega⟩ ⟨hab.1,by omega⟩) (h.le ((aG _).trans (aU _ _))) λr w h=>?_;obtain⟨hr,h⟩:=h.aP;have e3:bH v.out (y-x)=v.out+(y-x):=by unfold bH;rw[aF (by omega)]
 rw[hr,e3];have h:=h.drop;refine ac (aB h b (rL m0 c0 {v with nx:=bH (if v.nx>af then v.nx else af) (dZ (y-x) v.md.aY),out:=v.out+(y-x)} s mb) rfl rfl rfl λw h=>?_);refine ay (b:=n63) (x:=(lr v (x,y) ag af).1) h rfl (aA h (by rfl) λw h=>ay (b:=n1) (x:=(lr v (x,y) ag af).1) h rfl ?_);have h:au w0 S0 R0 w (ah b (rL m0 c0 (eV (lr v (x,y) ag af).2 v.bd.2) s mb)^aQ s aE v.bd.1^(ah mb (ad.db nw u)^ah nw (ad.d_ u.m.w))^G):=by
  have h:au w0 S0 R0 w (ah b (rL m0 c0 {v with nx:=bH (if v.nx>af then v.nx else af) (dZ (y-x) v.md.aY),out:=v.out+(y-x)} s mb)^aQ s aE v.bd.1^(ah mb (ad.db nw u)^ah nw (ad.d_ u.m.w))^G):=h.aK;exact h
 exact k w (h.jb b m0 c0 (lr v (x,y) ag af).2 mb s v.bd.1 v.bd.2).aK
end YU

namespace Zs
open bK bp ik fg gT fQ yK F6 eX ga eC lL oo pW pX mS oq ny Ls Xp Tv WX PC Ld YU
abbrev KR:Ks:=[.int .u64,.int .u64]
theorem Kt(b)(m0:Int)(v)(hv:pR v)(hL:rn v.bd.1)(hm:v.bs=bm m0)(af:Int)(hn:U af):bx (PZ (some ⟨b,0⟩) af) (mn b m0 v.cap v) (λr=>br (r=(cm v af).1) (mn b m0 v.cap (cm v af).2)):=
 bF λw0 S R h=>by
  have hbl:v.bd.1.length≤4294967296:=by have:=hv.bl;omega
  have hts:=sM v.md.aY v.bs hv.md.aY.1;have b1:=hv.bf.u;have b2:=hv.bf.un;have b3:=hv.bf.nw;have b4:=hv.bf.w;obtain⟨c0,hc0⟩:∃c0,c0=v.cap:=⟨_,rfl⟩;rw[←hc0]at h⊢;obtain⟨mb,nw,u,hu,h⟩:=(h.le (aG _)).mn b (m0:=m0) (c0:=c0) (v:=v);obtain⟨hu1,hu2,hu3⟩:=hu;have bad:∀{w:World} {n1:Nat} (e:Int),e≠0→(dW v).1=e→∀{G:SP},au w0 S R w (ah n1 zS^kj b m0 c0 (dW v).2 mb v.bd^(ah mb (ad.db nw u)^ah nw (ad.d_ u.m.w))^G)→
    st ⟨n1,0⟩ zS (ld KS ⟨n1,0⟩ λ(x:Ks.T KS)=>(λ(r:Ks.T KS×Int) w=>au w0 S R w (br (r=(cm v af).1) (mn b m0 c0 (cm v af).2))) (x,e)) w:=by
   intro w n1 e he hme G h;have ee:cm v af=((Ro,(dW v).1),(dW v).2):=by unfold cm;rw[aF (by rw[hme];exact he)]
   have em:(dW v).2.md=v.md∧(dW v).2.bd=v.bd:=(by unfold dW;(repeat' split)<;>exact⟨rfl,rfl⟩);refine aA h (by rfl) λw h=>ay (b:=n1) (x:=Ro) h rfl ?_;rw[ee,hme];have h:au w0 S R w (kj b m0 c0 (dW v).2 mb (dW v).2.bd^(ah mb (ad.db nw u)^ah nw (ad.d_ u.m.w))^bg):=(by rw[em.2];exact h.aK);exact au.aH rfl (h.xZ b m0 c0 (dW v).2 mb nw u ⟨by rw[em.1];exact hu1,hu2,by rw[em.1];exact hu3⟩).bq
  refine aD h λn1 w h=>ac (aI (Hu b m0 c0 v mb v.bd hbl) h λw h=>?_);refine aD h λn4 w h=>aA h (by rfl) λw h=>ac (aI (qO b m0 c0 v mb v.bd hbl) h λw h=>?_);obtain⟨s,h⟩:=h.kj (m0:=m0) (c0:=c0) (u:=v) (mq:=mb) (v:=v.bd) b;have h:au w0 S R w (ah b (rL m0 c0 v s mb)^aQ s aE v.bd.1^ah n1 zS^ah n4 (Ks.mk KR (bD v.bd.1).1)^(ah mb (ad.db nw u)^ah nw (ad.d_ u.m.w))^bg):=h.aK;have hsl:=((h.take (aQ s aE v.bd.1)).rd (s:=s)).2;refine aS h (λ_=>ah b (rL m0 c0 v s mb)^aQ s aE v.bd.1^ah n1 zS^ah n4 (Ks.mk KR (bD v.bd.1).1)^(ah mb (ad.db nw u)^ah nw (ad.d_ u.m.w))^bg) (λy:Bool=>y=decide ((bD v.bd.1).2=false∧bW v.bf-bN v.bf=0)) (λ(y:Bool) w hy h=>?_) ?_;rotate_left
  ·refine aM h λw h=>ae (λc=>?_) λc=>?_
   ·have c:(bD v.bd.1).2=false:=cS;refine ac (ac (aj (x:=bN v.bf) h rfl (aj (x:=bW v.bf) h rfl ⟨?_,h⟩)));show(bN v.bf==bW v.bf)=_;by_cases e:bN v.bf=bW v.bf
    ·rw[nM (show _∧_ from⟨c,by omega⟩),e];simp
    ·rw[tT (λhh:_∧_=>e (by have:=hh.2;omega))];simpa using e
   ·have c:(bD v.bd.1).2=true:=cS;exact⟨by rw[tT (λhh:_∧_=>by rw[c]at hh;cases hh.1)],h⟩
  rw[hy];refine ae (λc=>?_) λc=>?_
  ·have c:=bZ c;refine ac (aj (x:=some ⟨mb,0⟩) h rfl (ac (aj (x:=u.m.cO) h rfl (ae (λc2=>?_) λc2=>?_))))
   ·have c2:c_ v<v.md.cO:=(by have:=bZ c2;rw[hu1]at this;exact this);have em:dW v=(7,{v with sp:=oz v.sp (c_ v)}):=(by unfold dW;rw[aF c,aF c2]);refine ac (aq (FM b m0 c0 v s mb (c_ v) hv.sp hv.fl) h λ_ w h=>?_);have h:au w0 S R w (ah b (rL m0 c0 (eV {v with sp:=oz v.sp (c_ v)} v.bd.2) s mb)^aQ s aE v.bd.1^ah n1 zS^ah n4 (Ks.mk KR (bD v.bd.1).1)^(ah mb (ad.db nw u)^ah nw (ad.d_ u.m.w))^bg):=h.aK;have h:=h.jb b m0 c0 {v with sp:=oz v.sp (c_ v)} mb s v.bd.1 v.bd.2;have h:au w0 S R w (ah n1 zS^kj b m0 c0 (dW v).2 mb v.bd^(ah mb (ad.db nw u)^ah nw (ad.d_ u.m.w))^ah n4 (Ks.mk KR (bD v.bd.1).1)):=(by rw[em];exact h.aK);exact bad 7 (by decide) (by rw[em]) h
   ·have c2:¬c_ v<v.md.cO:=(by have:=cd c2;rw[hu1]at this;exact this);have em:dW v=(7,v):=(by unfold dW;rw[aF c,aw c2]);have h:au w0 S R w (ah b (rL m0 c0 (eV v v.bd.2) s mb)^aQ s aE v.bd.1^ah n1 zS^ah n4 (Ks.mk KR (bD v.bd.1).1)^(ah mb (ad.db nw u)^ah nw (ad.d_ u.m.w))^bg):=h;have h:=h.jb b m0 c0 v mb s v.bd.1 v.bd.2;have h:au w0 S R w (ah n1 zS^kj b m0 c0 (dW v).2 mb v.bd^(ah mb (ad.db nw u)^ah nw (ad.d_ u.m.w))^ah n4 (Ks.mk KR (bD v.bd.1).1)):=(by rw[em];exact h.aK);exact bad 7 (by decide) (by rw[em]) h
  ·have c:=cd c;refine aS h (λ_=>ah b (rL m0 c0 v s mb)^aQ s aE v.bd.1^ah n1 zS^ah n4 (Ks.mk KR (bD v.bd.1).1)^(ah mb (ad.db nw u)^ah nw (ad.d_ u.m.w))^bg) (λy:Bool=>y=decide (¬(c_ v<v.md.cO∧v.out<io v.md.aY (bu v) v.cap)∨((bD v.bd.1).2=false∧(v.bd.1.length:Int)≥4096))) (λ(y:Bool) w hy h=>?_) ?_;rotate_left
   ·refine aM h λw h=>ac (aj (x:=some ⟨mb,0⟩) h rfl (ac (aj (x:=u.m.cO) h rfl (ae (λc2=>?_) λc2=>?_))))
    ·have c2:c_ v≥v.md.cO:=(by have:=bZ c2;rw[hu1]at this;exact this);exact⟨(nM (.inl (λhh=>by have:=hh.1;omega))).symm,h⟩
    ·have c2:¬c_ v≥v.md.cO:=(by have:=cd c2;rw[hu1]at this;exact this);refine ac (ac (ac (aj (x:=v.out) h rfl (aj (x:=some ⟨mb,0⟩) h rfl (aj (x:=c0) h rfl (ac (aj (x:=v.md.aY) h (by rw[←hu1];rfl) ?_)))))));refine aI (AF b mb nw m0 c0 v s u hu1 hv.md.aY hm) h λw h=>?_;refine aN h (by rw[←hu1];rfl) (aN h rfl (aN h rfl (aN h rfl ?_)));refine aq (nz.HG v.md.aY (bu v) c0 hv.md.aY ⟨by unfold bu;omega,by unfold bu;omega⟩ (by rw[hc0];exact hv.cap)) (h.le ((aG _).trans (aU _ _))) λr w h=>?_;obtain⟨hr,h⟩:=h.aP;have h:=h.drop;rw[hr,hc0];refine aN h rfl (ae (λc3=>?_) λc3=>?_)
     ·have c3:v.out≥io v.md.aY (bu v) v.cap:=bZ c3;rw[←hc0];exact⟨(nM (.inl (λhh=>by have:=hh.2;rw[←hc0]at*;omega))).symm,h.aK⟩
     ·have c3:¬v.out≥io v.md.aY (bu v) v.cap:=cd c3;have hgo:c_ v<v.md.cO∧v.out<io v.md.aY (bu v) v.cap:=⟨by omega,by omega⟩;rw[←hc0];refine ae (λc4=>?_) λc4=>?_
      ·have c4:(bD v.bd.1).2=false:=(by simpa using c4);refine ac (aj (x:=s) h rfl ⟨?_,h.aK⟩);rw[hsl];by_cases e:(v.bd.1.length:Int)≥4096
       ·rw[nM e,nM (.inr ⟨c4,e⟩)]
       ·rw[tT e,tT];rintro(hh|hh)
        ·exact hh (by rw[hc0];exact hgo)
        ·exact e hh.2
      ·have c4:(bD v.bd.1).2=true:=(by simpa using c4);refine⟨?_,h.aK⟩;rw[tT];rintro(hh|hh)
       ·exact hh (by rw[hc0];exact hgo)
       ·rw[c4]at hh;cases hh.1
   rw[hy];refine ae (λc2=>?_) λc2=>?_
   ·have c2:=bZ c2;have em:dW v=(5,v):=by
     unfold dW;rw[aw c];by_cases e:¬(c_ v<v.md.cO∧v.out<io v.md.aY (bu v) v.cap)
     ·rw[aF e]
     ·rw[aw e];rcases c2 with c2|c2
      ·exact absurd c2 e
      ·rw[aF c2]
    have h:au w0 S R w (ah b (rL m0 c0 (eV v v.bd.2) s mb)^aQ s aE v.bd.1^ah n1 zS^ah n4 (Ks.mk KR (bD v.bd.1).1)^(ah mb (ad.db nw u)^ah nw (ad.d_ u.m.w))^bg):=h;have h:=h.jb b m0 c0 v mb s v.bd.1 v.bd.2;have h:au w0 S R w (ah n1 zS^kj b m0 c0 (dW v).2 mb v.bd^(ah mb (ad.db nw u)^ah nw (ad.d_ u.m.w))^ah n4 (Ks.mk KR (bD v.bd.1).1)):=(by rw[em];exact h.aK);exact bad 5 (by decide) (by rw[em]) h
   ·have c2:=cd c2;have c3:c_ v<v.md.cO∧v.out<io v.md.aY (bu v) v.cap:=Ad.1 λhh=>c2 (.inl hh);have em:(dW v).1=0:=by
     unfold dW;rw[aw c,aw (λhh=>hh c3),aw (λhh=>c2 (.inr hh))]
    have ee:cm v af=(((uW v af).1,0),(uW v af).2):=(by unfold cm;rw[aw (by rw[em];exact λe=>e rfl)]);have hout:v.out<18014398509481984:=(C2 hv.md.aY em).1;rw[ee];have ho2:0≤v.out∧v.out+65536<18446744073709551616:=⟨hv.out.1,by omega⟩;obtain⟨sn,hsn⟩:∃sn,sn=(jJ v.sp af (c_ v)).1:=⟨_,rfl⟩;refine ac (aq (HO b m0 c0 v s mb af (c_ v)) h λr w h=>?_);obtain⟨hr,h⟩:=h.aP;rw[hr,←hsn];have h:au w0 S R w (ah b (rL m0 c0 (eV (eJ v af) v.bd.2) s mb)^aQ s aE v.bd.1^ah n1 zS^ah n4 (Ks.mk KR (bD v.bd.1).1)^(ah mb (ad.db nw u)^ah nw (ad.d_ u.m.w))^bg):=h.aK;have h:=h.jb b m0 c0 (eJ v af) mb s v.bd.1 v.bd.2;refine aD h λn42 w h=>aA h (by rfl) λw h=>?_;have aK:∀(V:Sk) (rg:Int×Int) (ag:Bool),uW v af=lr V rg ag af→V.md=v.md→V.nx=v.nx→V.out=v.out→(0≤rg.2-rg.1∧rg.2-rg.1≤65536)→∀{w:World},au w0 S R w (ah n1 zS^ah n4 [aC rg.1,aC rg.2]^kj b m0 c0 V mb V.bd^(ah mb (ad.db nw u)^ah nw (ad.d_ u.m.w))^bg)→Ol b n1 n4 af ag (λ(r:Ks.T KS×Int) w=>au w0 S R w (br (r=((uW v af).1,0)) (mn b m0 c0 (uW v af).2))) w:=by
     intro V rg ag hg e1 e2 e3 hrg w h;rw[hg];refine WL (G:=bg) (mb:=mb) (nw:=nw) (m0:=m0) (c0:=c0) (v:=V) (u:=u) (x:=rg.1) (y:=rg.2) (by rw[e1];exact hu1) (by rw[e1];exact hv.md) hn (by rw[e2];exact hv.nx) hrg (by rw[e3];exact ho2) h λw h=>?_;have h:au w0 S R w (kj b m0 c0 (lr V rg ag af).2 mb (lr V rg ag af).2.bd^(ah mb (ad.db nw u)^ah nw (ad.d_ u.m.w))^bg):=h;exact au.aH rfl (h.xZ b m0 c0 (lr V rg ag af).2 mb nw u ⟨by rw[show(lr V rg ag af).2.md=V.md from rfl,e1];exact hu1,hu2,by rw[show(lr V rg ag af).2.md=V.md from rfl,e1];exact hu3⟩).bq
    cases hl:(bD v.bd.1).2 with
    |true=>
     have hg:uW v af=lr {eJ v af with bd:=(dJ v.bd.1 sn,v.bd.2)} (bD v.bd.1).1 true af:=(by unfold uW;rw[aF hl,hsn]);refine aS h (λ_=>ah n1 zS^ah n4 [aC (bD v.bd.1).1.1,aC (bD v.bd.1).1.2]^kj b m0 c0 {eJ v af with bd:=(dJ v.bd.1 sn,v.bd.2)} mb (dJ v.bd.1 sn,v.bd.2)^(ah mb (ad.db nw u)^ah nw (ad.d_ u.m.w))^bg) (λ_=>True) (λ_ w _ h=>?_) ?_
     ·exact aK {eJ v af with bd:=(dJ v.bd.1 sn,v.bd.2)} (bD v.bd.1).1 true hg rfl rfl rfl (hL hl) h
     ·refine ae (λ_=>?_) λc=>by cases c
      refine aM h λw h=>ay (b:=n42) (x:=sn) h rfl (ac (aq (FC b m0 c0 (eJ v af) mb sn v.bd hbl) h λr w h=>?_));obtain⟨_,h⟩:=h.aP;obtain⟨s,h⟩:=h.kj (m0:=m0) (c0:=c0) (u:=eJ v af) (mq:=mb) (v:=(dJ v.bd.1 sn,v.bd.2)) b;have h:au w0 S R w (ah b (rL m0 c0 (eV (eJ v af) v.bd.2) s mb)^aQ s aE (dJ v.bd.1 sn)^ah n1 zS^ah n4 (Ks.mk KR (bD v.bd.1).1)^(ah mb (ad.db nw u)^ah nw (ad.d_ u.m.w))^bg):=h.aK;have h:au w0 S R w (ah b (rL m0 c0 (eV {eJ v af with bd:=(dJ v.bd.1 sn,v.bd.2)} v.bd.2) s mb)^aQ s aE (dJ v.bd.1 sn)^ah n1 zS^ah n4 [aC (bD v.bd.1).1.1,aC (bD v.bd.1).1.2]^(ah mb (ad.db nw u)^ah nw (ad.d_ u.m.w))^bg):=h;exact⟨trivial,(h.jb b m0 c0 {eJ v af with bd:=(dJ v.bd.1 sn,v.bd.2)} mb s (dJ v.bd.1 sn) v.bd.2).aK⟩
    |false=>
     obtain⟨T,hT⟩:∃T,T=ly v.bf (bu v):=⟨_,rfl⟩;have hg:uW v af=lr {eJ v af with bf:=T.2,bd:=(dP v.bd T.1.1.1 T.1.1.2 sn).2} T.1.1 false af:=by unfold uW;rw[aw (by rw[hl];intro c;cases c),hsn,hT]
     refine aS h (λ_=>ah n1 zS^ah n4 [aC T.1.1.1,aC T.1.1.2]^kj b m0 c0 {eJ v af with bf:=T.2,bd:=(dP v.bd T.1.1.1 T.1.1.2 sn).2} mb (dP v.bd T.1.1.1 T.1.1.2 sn).2^(ah mb (ad.db nw u)^ah nw (ad.d_ u.m.w))^bg) (λ_=>True) (λ_ w _ h=>?_) ?_
     ·exact aK {eJ v af with bf:=T.2,bd:=(dP v.bd T.1.1.1 T.1.1.2 sn).2} T.1.1 false hg rfl rfl rfl (by rw[hT];exact FX hv.bf hts.2) h
     ·refine ae (λc=>by cases c) λ_=>?_;obtain⟨s,h⟩:=h.kj (m0:=m0) (c0:=c0) (u:=eJ v af) (mq:=mb) (v:=v.bd) b;have h:au w0 S R w (ah b (rL m0 c0 (eJ v af) s mb)^aQ s aE v.bd.1^ah n42 (Ks.mk cy sn)^ah n1 zS^ah n4 (Ks.mk KR (bD v.bd.1).1)^(ah mb (ad.db nw u)^ah nw (ad.d_ u.m.w))^bg):=h.aK;refine aM h λw h=>ac (aI (AF b mb nw m0 c0 (eJ v af) s u hu1 hv.md.aY hm) h λw h=>?_);refine aq (KQ b m0 c0 (eJ v af) s mb (bu v) hv.bf (by unfold bu;omega)) h λr w h=>?_;obtain⟨hr,h⟩:=h.aP;have hr:r=T.1:=by rw[hr,hT]
      rw[hr];refine aA h (by rfl) λw h=>aM h λw h=>ay (b:=n42) (x:=sn) h rfl (ac (aj (x:=T.1.1.1) h rfl (aj (x:=T.1.1.2) h rfl ?_)));have h:au w0 S R w (ah n4 (Ks.mk KR T.1.1)^ah b (rL m0 c0 {eJ v af with bf:=(ly (eJ v af).bf (bu v)).2} s mb)^aQ s aE v.bd.1^ah n1 zS^(ah mb (ad.db nw u)^ah nw (ad.d_ u.m.w))^bg):=h.aK;have h:au w0 S R w (ah n4 [aC T.1.1.1,aC T.1.1.2]^ah b (rL m0 c0 (eV {eJ v af with bf:=(ly v.bf (bu v)).2} v.bd.2) s mb)^aQ s aE v.bd.1^ah n1 zS^(ah mb (ad.db nw u)^ah nw (ad.d_ u.m.w))^bg):=h;rw[←hT]at h;have h:=h.jb b m0 c0 {eJ v af with bf:=T.2} mb s v.bd.1 v.bd.2;refine aq (Hw b m0 c0 {eJ v af with bf:=T.2} mb T.1.1.1 T.1.1.2 sn v.bd) h λr w h=>?_;obtain⟨_,h⟩:=h.aP;obtain⟨s,h⟩:=h.kj (m0:=m0) (c0:=c0) (u:={eJ v af with bf:=T.2}) (mq:=mb) (v:=(dP v.bd T.1.1.1 T.1.1.2 sn).2) b;have h:au w0 S R w (ah b (rL m0 c0 (eV {eJ v af with bf:=T.2,bd:=(dP v.bd T.1.1.1 T.1.1.2 sn).2} (dP v.bd T.1.1.1 T.1.1.2 sn).2.2) s mb)^aQ s aE (dP v.bd T.1.1.1 T.1.1.2 sn).2.1^ah n1 zS^ah n4 [aC T.1.1.1,aC T.1.1.2]^(ah mb (ad.db nw u)^ah nw (ad.d_ u.m.w))^bg):=h.aK;exact⟨trivial,(h.jb b m0 c0 {eJ v af with bf:=T.2,bd:=(dP v.bd T.1.1.1 T.1.1.2 sn).2} mb s (dP v.bd T.1.1.1 T.1.1.2 sn).2.1 (dP v.bd T.1.1.1 T.1.1.2 sn).2.2).aK⟩
end Zs

namespace WY
open bK bp ik fg gT fQ yK F6 eX ga eC fe lL oo pW pX mS oq Bw ny pY nz Ls Xp Tv WX PC Ld YU Zs
theorem Yl(m:Int)(hm:m<9223372036854775808):nk (u64.wrap (if m>(0:Int)then m else(0:Int)))=nk (bm m):=by
 have h:u64.wrap (if m>(0:Int)then m else(0:Int))=(if m>(0:Int)then m else(0:Int)):=wu (by split<;>omega) (by split<;>omega);rw[h];unfold nk bm
 (repeat' split)<;>omega
theorem V7(m:Int)(hm:m<9223372036854775808):mJ (u64.wrap (if m>(0:Int)then m else(0:Int)))=mJ (bm m):=by
 unfold mJ;rw[Yl m hm]
theorem Ce(id:Int)(c)(hc:c.2.2.2.2.2.2.2.2<9223372036854775808):bx (Z2 id c) bg (λr=>ex λp:Nat=>br (r=some ⟨p,0⟩) (mn p c.2.2.2.2.2.2.2.2 c.2.2.2.2.2.2.2.1 (iU id c.2.2.2.2.2.2.2.2 c.2.2.2.2.2.2.2.1))):=
 bF λw0 S R h=>by
  obtain⟨m,hm⟩:∃m:Int,m=c.2.2.2.2.2.2.2.2:=⟨_,rfl⟩;obtain⟨k,hk⟩:∃k:Int,k=c.2.2.2.2.2.2.2.1:=⟨_,rfl⟩;rw[←hm]at hc;refine aD h λn1 w h=>aM h λw h=>aj (x:=m) h (by rw[hm];rfl) (aj (x:=k) h (by rw[hk];rfl) (aj (x:=m) h (by rw[hm];rfl) ?_));refine aq (AD (u64.wrap (if m>(0:Int)then m else(0:Int)))) (h.le ((aG _).trans (aU _ _))) λr w h=>?_;obtain⟨⟨mb,nw⟩,h⟩:=h.lS;dsimp only at h;obtain⟨hr,h⟩:=h.aP;rw[hr];rw[V7 m hc]at h;obtain⟨u,hu⟩:∃u:Rm,u=Rm.mk (mJ (bm m)) false 0 739:=⟨_,rfl⟩;have h:au w0 S R w ((ah mb (ad.db nw u)^ah nw (ad.d_ u.m.w))^ah n1 (Ks.mk KCf c)^bg):=by rw[hu];exact h.aK
  refine aN h (by rw[hk];rfl) (aN h (by rw[hm];rfl) (aD h λn6 w h=>?_));have h:=h.nil aE;have h:au w0 S R w (ah n6 (rL m k (eV (iU id m k) 0) ⟨none,0,0⟩ mb)^aQ ⟨none,0,0⟩ aE []^(ah mb (ad.db nw u)^ah nw (ad.d_ u.m.w))^bg):=by
   have h:au w0 S R w (ah n6 [aJ id,aJ m,aJ k,aJ (1073741824:Int),aC (0:Int),aC (0:Int),aC (0:Int),aX ⟨none,0,0⟩,aC (0:Int),aC (0:Int),aC (0:Int),aC (0:Int),aC (0:Int),a_ false,aC (0:Int),aC (0:Int),aC (0:Int),aC (0:Int),aC (0:Int),a_ false,.ptr (some ⟨mb,0⟩),aC (0:Int),aC (0:Int)]^aQ ⟨none,0,0⟩ aE []^(ah mb (ad.db nw u)^ah nw (ad.d_ u.m.w))^bg):=h.aK;exact h
  have h:=h.jb n6 m k (iU id m k) mb ⟨none,0,0⟩ [] 0;have h:au w0 S R w (kj n6 m k (iU id m k) mb (iU id m k).bd^(ah mb (ad.db nw u)^ah nw (ad.d_ u.m.w))^bg):=h;rw[←hm,←hk];exact au.gI n6 (au.aH rfl (h.xZ n6 m k (iU id m k) mb nw u (by rw[hu];exact⟨rfl,(λhh=>by cases hh),rfl⟩)).bq)
theorem FZ(H:∀w S R,au w S R w Pre→call P f args rs (λx w'=>au w S R w' (Post x)) w):wF P f args rs Pre Post:=
 λw S R hp=>ky.mono (H w S R (td hp)) λv w' ⟨x,hv,_,ho⟩=>⟨x,hv,ho⟩
theorem I4(b)(m0 c0:Int)(v)(hb:rN v.bf)(hl:bL v.bf=1073741824)(hw:bW v.bf≤1152921504606846976)(n:Int)(hn:n<9223372036854775808):bx (Y3 (some ⟨b,3⟩) n) (mn b m0 c0 v) (λr=>br (r=(eG v n).1) (mn b m0 c0 (eG v n).2)):=
 FZ λw0 S R h=>by
  obtain⟨mb,nw,u,hu,h⟩:=(h.le (aG _)).mn b (m0:=m0) (c0:=c0) (v:=v);obtain⟨s,h⟩:=h.kj (m0:=m0) (c0:=c0) (u:=v) (mq:=mb) (v:=v.bd) b;have h:au w0 S R w0 (ah b (rL m0 c0 v s mb)^aQ s aE v.bd.1^(ah mb (ad.db nw u)^ah nw (ad.d_ u.m.w))^bg):=h;refine aq (HR b m0 c0 v s mb n hb hl hw hn) h λr w h=>?_;obtain⟨hr,h⟩:=h.aP;have h:au w0 S R w (ah b (rL m0 c0 (eV (eG v n).2 v.bd.2) s mb)^aQ s aE v.bd.1^(ah mb (ad.db nw u)^ah nw (ad.d_ u.m.w))^bg):=h;have h:=h.jb b m0 c0 (eG v n).2 mb s v.bd.1 v.bd.2;have h:au w0 S R w (kj b m0 c0 (eG v n).2 mb (eG v n).2.bd^(ah mb (ad.db nw u)^ah nw (ad.d_ u.m.w))^bg):=h;exact au.aH hr (h.xZ b m0 c0 (eG v n).2 mb nw u hu).bq
theorem JT(v)(n:Int):(cv v n).2.md=v.md∧(cv v n).2.bd=v.bd:=by unfold cv;split<;>exact⟨rfl,rfl⟩
theorem yE(b)(m0 c0:Int)(v)(ho:0≤v.out∧v.out<9223372036854775808)(n:Int)(hn:n<9223372036854775808):bx (VC (some ⟨b,0⟩) n) (mn b m0 c0 v) (λr=>br (r=(cv v n).1) (mn b m0 c0 (cv v n).2)):=
 FZ λw0 S R h=>by
  obtain⟨k1,k2⟩:=JT v n;obtain⟨mb,nw,u,hu,h⟩:=(h.le (aG _)).mn b (m0:=m0) (c0:=c0) (v:=v);obtain⟨s,h⟩:=h.kj (m0:=m0) (c0:=c0) (u:=v) (mq:=mb) (v:=v.bd) b;have h:au w0 S R w0 (ah b (rL m0 c0 v s mb)^aQ s aE v.bd.1^(ah mb (ad.db nw u)^ah nw (ad.d_ u.m.w))^bg):=h;refine aq (Kr b m0 c0 v s mb n ho hn) h λr w h=>?_;obtain⟨hr,h⟩:=h.aP;rw[←k2]at h;have h:au w0 S R w (ah b (rL m0 c0 (eV (cv v n).2 (cv v n).2.bd.2) s mb)^aQ s aE (cv v n).2.bd.1^(ah mb (ad.db nw u)^ah nw (ad.d_ u.m.w))^bg):=h;have h:=h.jb b m0 c0 (cv v n).2 mb s (cv v n).2.bd.1 (cv v n).2.bd.2;have h:au w0 S R w (kj b m0 c0 (cv v n).2 mb (cv v n).2.bd^(ah mb (ad.db nw u)^ah nw (ad.d_ u.m.w))^bg):=h;exact au.aH hr (h.xZ b m0 c0 (cv v n).2 mb nw u (by rw[k1];exact hu)).bq
structure qW(m0 c0:Int)(v:Sk):Prop where
 m:v.bs=bm m0
 c:v.cap=c0
 l:bL v.bf=1073741824
theorem qW.of{m0 c0:Int}(h:qW m0 c0 v)(h1:v'.bs=v.bs)(h2:v'.cap=v.cap)(h3:bL v'.bf=bL v.bf):qW m0 c0 v':=⟨h1.trans h.m,h2.trans h.c,h3.trans h.l⟩
theorem aav(b)(m:Int):bL (ly b m).2=bL b:=by unfold ly;split<;>rfl
theorem qW.emit{m0 c0:Int}(h:qW m0 c0 v)(af:Int):qW m0 c0 (cm v af).2:=by
 have e1:(dW v).2.bs=v.bs∧(dW v).2.cap=v.cap∧bL (dW v).2.bf=bL v.bf:=by unfold dW;(repeat' split)<;>exact⟨rfl,rfl,rfl⟩
 have e2:(uW v af).2.bs=v.bs∧(uW v af).2.cap=v.cap∧bL (uW v af).2.bf=bL v.bf:=by
  unfold uW;split
  ·exact⟨rfl,rfl,rfl⟩
  ·exact⟨rfl,rfl,aav _ _⟩
 unfold cm;split
 ·exact h.of e1.1 e1.2.1 e1.2.2
 ·exact h.of e2.1 e2.2.1 e2.2.2
theorem qW.Ek{m0 c0:Int}(h:qW m0 c0 v)(af upto:Int)(xs:List (Int×Int)):qW m0 c0 (nP v af upto xs).2:=by
 unfold nP;split
 ·exact h.of rfl rfl (by show bL (tD v.bf upto).2=_;unfold tD;split<;>rfl)
 ·exact h
theorem qW.yl{m0 c0:Int}(h:qW m0 c0 v)(af:Int):qW m0 c0 (iz v af):=h.of rfl rfl rfl
theorem qW.done{m0 c0:Int}(h:qW m0 c0 v)(n:Int):qW m0 c0 (cv v n).2:=by
 unfold cv;split
 ·exact h
 ·exact h.of rfl rfl rfl
theorem qW.write{m0 c0:Int}(h:qW m0 c0 v)(n:Int):qW m0 c0 (eG v n).2:=h.of rfl rfl (by show bL (AZ v.bf n).2=_;unfold AZ;(repeat' split)<;>rfl)
end WY

namespace Xq
open bK bp ik fg gT fQ yK F6 eX ga eC fe lL oo pW pX mS oq Bw ny pY nz Ls Xp Tv WX PC Ld YU Zs WY
section
variable {w0 w:World} {S0 R0:Nat→Prop} {F G:SP} {b:Nat} {m0 c0:Int} {v:Sk}
theorem AA(b){m0 c0:Int}(hv:pR v)(hL:rn v.bd.1)(hr:qW m0 c0 v)(af:Int)(hn:U af):bx (PZ (some ⟨b,0⟩) af) (mn b m0 c0 v) (λr=>br (r=(cm v af).1) (mn b m0 c0 (cm v af).2)):=by
 have h:=Kt b m0 v hv hL hr.m af hn;rw[hr.c]at h;exact h
theorem Ck(h:au w0 S0 R0 w F)[tk:Take (mn b m0 c0 v) F G]{K:Int→WP}(k:K v.id w):ld [.int .i64] ⟨b,0⟩ K w:=by
 obtain⟨mb,nw,u,hu,h⟩:=(h.le tk.le).mn b (m0:=m0) (c0:=c0) (v:=v);obtain⟨s,h⟩:=h.kj (m0:=m0) (c0:=c0) (u:=v) (mq:=mb) (v:=v.bd) b;exact aj (x:=v.id) h rfl k
theorem wC(h:au w0 S0 R0 w F)[tk:Take (mn b m0 c0 v) F G]{K:Int→WP}(k:K v.md.aY w):ld [.ptr] ⟨b,0+20⟩ (λx:bO=>az x λq=>ld [.int .u64] ⟨q.b,q.o+24⟩ K) w:=by
 obtain⟨mb,nw,u,⟨hu,_,_⟩,h⟩:=(h.le tk.le).mn b (m0:=m0) (c0:=c0) (v:=v);obtain⟨s,h⟩:=h.kj (m0:=m0) (c0:=c0) (u:=v) (mq:=mb) (v:=v.bd) b;exact aj (x:=some ⟨mb,0⟩) h rfl (ac (aj (x:=u.m.aY) h rfl (by rw[hu];exact k)))
end
end Xq

namespace Jn
open f_
structure Cx where
 af:Int
 k:Nat→xQ.Ct
 p:Nat→bO
abbrev mw(X:Cx):List Lf:=[aJ (X.k 0).1,aJ (X.k 0).2.1,aJ (X.k 0).2.2.1,aJ (X.k 0).2.2.2.1,aJ (X.k 0).2.2.2.2.1,aJ (X.k 0).2.2.2.2.2.1,aJ (X.k 0).2.2.2.2.2.2.1,aJ (X.k 0).2.2.2.2.2.2.2,aJ (X.k 1).1,aJ (X.k 1).2.1,aJ (X.k 1).2.2.1,aJ (X.k 1).2.2.2.1,aJ (X.k 1).2.2.2.2.1,aJ (X.k 1).2.2.2.2.2.1,aJ (X.k 1).2.2.2.2.2.2.1,aJ (X.k 1).2.2.2.2.2.2.2,aJ (X.k 2).1,aJ (X.k 2).2.1,aJ (X.k 2).2.2.1,aJ (X.k 2).2.2.2.1,aJ (X.k 2).2.2.2.2.1,aJ (X.k 2).2.2.2.2.2.1,aJ (X.k 2).2.2.2.2.2.2.1,aJ (X.k 2).2.2.2.2.2.2.2,aJ (X.k 3).1,aJ (X.k 3).2.1,aJ (X.k 3).2.2.1,aJ (X.k 3).2.2.2.1,aJ (X.k 3).2.2.2.2.1,aJ (X.k 3).2.2.2.2.2.1,aJ (X.k 3).2.2.2.2.2.2.1,aJ (X.k 3).2.2.2.2.2.2.2,aJ (X.k 4).1,aJ (X.k 4).2.1,aJ (X.k 4).2.2.1,aJ (X.k 4).2.2.2.1,aJ (X.k 4).2.2.2.2.1,aJ (X.k 4).2.2.2.2.2.1,aJ (X.k 4).2.2.2.2.2.2.1,aJ (X.k 4).2.2.2.2.2.2.2,aJ (X.k 5).1,aJ (X.k 5).2.1,aJ (X.k 5).2.2.1,aJ (X.k 5).2.2.2.1,aJ (X.k 5).2.2.2.2.1,aJ (X.k 5).2.2.2.2.2.1,aJ (X.k 5).2.2.2.2.2.2.1,aJ (X.k 5).2.2.2.2.2.2.2,aJ (X.k 6).1,aJ (X.k 6).2.1,aJ (X.k 6).2.2.1,aJ (X.k 6).2.2.2.1,aJ (X.k 6).2.2.2.2.1,aJ (X.k 6).2.2.2.2.2.1,aJ (X.k 6).2.2.2.2.2.2.1,aJ (X.k 6).2.2.2.2.2.2.2,aJ (X.k 7).1,aJ (X.k 7).2.1,aJ (X.k 7).2.2.1,aJ (X.k 7).2.2.2.1,aJ (X.k 7).2.2.2.2.1,aJ (X.k 7).2.2.2.2.2.1,aJ (X.k 7).2.2.2.2.2.2.1,aJ (X.k 7).2.2.2.2.2.2.2,.ptr (X.p 0),.ptr (X.p 1),.ptr (X.p 2),.ptr (X.p 3),.ptr (X.p 4),.ptr (X.p 5),.ptr (X.p 6),.ptr (X.p 7)]
def kq(b:Nat)(X:Cx)(pre:List Lf)(v:LV):SP:=ex λs:Sl×Sl=>ah b (pre++.sl s.1::aX s.2::mw X)^aQ s.1 KI v.1^aQ s.2 KI v.2
instance(b:Nat)(X:Cx)(pre:List Lf)(v:LV):nt (kq b X pre v):=by unfold kq;infer_instance
theorem _root_.Go.X.au.kq(h:au w0 S0 R0 w F)(b X pre v)[t:Take (Jn.kq b X pre v) F G]:∃s1 s2,au w0 S0 R0 w (ah b (pre++.sl s1::aX s2::mw X)^aQ s1 KI v.1^aQ s2 KI v.2^G):=by
 obtain⟨s,h⟩:=(h.le t.le).lS;exact⟨s.1,s.2,h.aK⟩
theorem _root_.Go.X.au.dT(h:au w0 S0 R0 w F)(b X pre s1 s2 v)[t:Take (ah b (pre++.sl s1::aX s2::mw X)^aQ s1 KI v.1^aQ s2 KI v.2) F G]:au w0 S0 R0 w (Jn.kq b X pre v^G):=
 au.tH (f:=λs:Sl×Sl=>ah b (pre++.sl s.1::aX s.2::mw X)^aQ s.1 KI v.1^aQ s.2 KI v.2) (s1,s2) (h.le t.le)
theorem Yz(X pre x y):Ks.un [.sl] (((pre++Lf.sl x::Lf.sl y::mw X).drop pre.length).take 1)=some x:=by rw[Du];rfl
theorem YA(X pre x y):Ks.un [.sl] (((pre++Lf.sl x::Lf.sl y::mw X).drop (pre.length+1)).take 1)=some y:=by rw[Af,Fz,B4 (by omega)];rfl
theorem aas(X pre x y):((pre++Lf.sl x::Lf.sl y::mw X).drop (pre.length+1)).take 1=[Lf.sl y]:=by rw[Af,Fz,B4 (by omega)];rfl
theorem RY(X pre x y z)(h:o≤pre.length+1):Nat.ble (o+[Lf.sl z].length) (pre++Lf.sl x::Lf.sl y::mw X).length=true:=jd (by simp;omega)
theorem Tb(X pre x y z):dE (pre++Lf.sl x::Lf.sl y::mw X) pre.length [Lf.sl z]=pre++Lf.sl z::Lf.sl y::mw X:=by
 rw[DZ (by simp only[eQ,fq,iE];omega),fa,Dx,Af,gO,Fz,B4 (by omega)];simp
theorem Tc(X pre x y z):dE (pre++Lf.sl x::Lf.sl y::mw X) (pre.length+1) [Lf.sl z]=pre++Lf.sl x::Lf.sl z::mw X:=by
 rw[DZ (by simp only[eQ,fq,iE];omega),fa,List.take_append,Fz,kF (by omega),show pre.length+1+[Lf.sl z].length=pre.length+2 from rfl,Af,Fz,B4 (by omega)];simp
theorem x4(b X pre o)(ho:pre.length=o)(v)(s:Int)(hl:v.1.length+v.2.length≤4294967296):bx (Qi (some ⟨b,o⟩) s) (kq b X pre v) (λr=>br (r=bY v s) (kq b X pre v)):=
 bF λw S R h=>by
  subst ho;obtain⟨s1,s2,h⟩:=(h.le (aG _)).kq b X pre v;refine ac (aj h (Yz X pre _ _) ?_);refine bR (A:=bg) (Q:=aZ s1 KI v.1) (PB.zt s1 s v.1 (by omega)) h λr w h=>?_;obtain⟨hr,h⟩:=h.aP;refine ae (λc=>?_) λc=>?_
  ·exact au.aH (by rw[bY,aF (hr.1 c)]) (h.dT b X pre s1 s2 v).bq
  ·have c1:¬s∈v.1:=λhm=>by have:=hr.2 hm;rw[c]at this;cases this
   refine ac (aj h (YA X pre _ _) ?_);refine bR (A:=bg) (Q:=aZ s2 KI v.2) (PB.zt s2 s v.2 (by omega)) h λr w h=>?_;obtain⟨hr,h⟩:=h.aP;refine ae (λc=>?_) λc=>?_
   ·exact au.aH (by rw[bY,aw c1,aF (hr.1 c)]) (h.dT b X pre s1 s2 v).bq
   ·have c2:¬s∈v.2:=λhm=>by have:=hr.2 hm;rw[c]at this;cases this
    exact au.aH (by rw[bY,aw c1,aw c2]) (h.dT b X pre s1 s2 v).bq
theorem zL(b X pre o)(ho:pre.length=o)(v)(s:Int)(f)(hl:v.1.length+v.2.length≤4294967295):
  bx (LZ (some ⟨b,o⟩) s f) (kq b X pre v) (λr=>br (r=(kE v s f).1) (kq b X pre (kE v s f).2)):=
 bF λw S R h=>by
  subst ho;refine ae (λc=>?_) λc=>?_
  ·have c:s<0∨8≤s:=cS;rw[kE,aF c];exact au.aH rfl h
  ·have c:¬(s<0∨8≤s):=(by simp at c;omega);rw[kE,aw c];refine aq (x4 b X pre _ rfl v s (by omega)) (h.le (aG _)) λr w h=>?_;obtain⟨hr,h⟩:=h.aP;refine ae (λc2=>?_) λc2=>?_
   ·rw[aF (by rw[←hr];simpa using c2)];exact au.aH rfl h.bq
   ·rw[aw (by rw[←hr];simpa using c2)];obtain⟨s1,s2,h⟩:=h.kq b X pre v;refine ae (λc3=>?_) λc3=>?_
    ·rw[aF c3];refine ac (aj h (Yz X pre _ _) ?_);have h:=h.nil KI;refine dF (s:=⟨none,0,0⟩) (x:=s1) h rfl (by simp;omega) λs4 w _ h=>?_;have h:=h.eD (s:=s4) (K:=KI) (po _);refine aD h λn w h=>?_;have h:=h.ct n KI [s] rfl (by simp);refine dF (s:=s4) (x:=⟨some ⟨n,0⟩,1,1⟩) h rfl (by simp;omega) λs' w _ h=>?_;refine ac (aB h b (pre++.sl s'::aX s2::mw X) rfl (RY X pre _ _ _ (uJ _)) (Tb X pre _ _ _) λw h=>?_);exact au.aH rfl (h.dT b X pre s' s2 (v.1++[s],v.2)).bq
    ·have c3:f=false:=c3;rw[c3,aw (by simp)];refine ac (aj h (YA X pre _ _) ?_);have h:=h.nil KI;refine dF (s:=⟨none,0,0⟩) (x:=s2) h rfl (by simp;omega) λs4 w _ h=>?_;have h:=h.eD (s:=s4) (K:=KI) (po _);refine aD h λn w h=>?_;have h:=h.ct n KI [s] rfl (by simp);refine dF (s:=s4) (x:=⟨some ⟨n,0⟩,1,1⟩) h rfl (by simp;omega) λs' w _ h=>?_;refine ac (aB h b (pre++.sl s1::aX s'::mw X) rfl (RY X pre _ _ _ (eM _)) (Tc X pre _ _ _) λw h=>?_);exact au.aH rfl (h.dT b X pre s1 s' (v.1,v.2++[s])).bq
theorem GW(b X pre o)(ho:pre.length=o)(v):bx (T1 (some ⟨b,o⟩)) (kq b X pre v) (λr=>br (r=bP v) (kq b X pre v)):=
 bF λw S R h=>by
  subst ho;obtain⟨s1,s2,h⟩:=(h.le (aG _)).kq b X pre v;have hs1:=((h.take (aQ s1 KI v.1)).rd (s:=s1)).2;have hs2:=((h.take (aQ s2 KI v.2)).rd (s:=s2)).2;obtain⟨a,c⟩:=v;refine ac (aj h (Yz X pre _ _) ?_);refine ae (λc1=>?_) λc1=>?_
  ·have c1:0<a.length:=(by simp at c1;dsimp only at hs1;omega);refine ac (aj h (Yz X pre _ _) ?_);have h':=h.take (aQ s1 KI a);refine bT h' (by omega) (by simpa using c1) ?_;refine eE h' s1 0 (bV c1) rfl ?_;refine au.aH ?_ (h.dT b X pre s1 s2 (a,c)).bq;cases a with
   |nil=>simp at c1
   |cons x a=>rfl
  ·have c1:a=[]:=List.eq_nil_of_length_eq_zero (by simp at c1;dsimp only at hs1;omega);refine ac (aj h (YA X pre _ _) ?_);refine ae (λc2=>?_) λc2=>?_
   ·have c2:0<c.length:=(by simp at c2;dsimp only at hs2;omega);refine ac (aj h (YA X pre _ _) ?_);have h':=h.take (aQ s2 KI c);refine bT h' (by omega) gJ ?_;refine eE h' s2 0 (bV c2) rfl ?_;refine au.aH ?_ (h.dT b X pre s1 s2 (a,c)).bq;rw[c1];cases c with
    |nil=>simp at c2
    |cons x a=>rfl
   ·have c2:c=[]:=List.eq_nil_of_length_eq_zero (by simp at c2;dsimp only at hs2;omega);refine au.aH ?_ (h.dT b X pre s1 s2 (a,c)).bq;rw[c1,c2];rfl
theorem vO(b X pre o)(ho:pre.length=o)(v)(s:Int)(hl:v.1.length+v.2.length≤4294967296):
  bx (P9 (some ⟨b,o⟩) s) (kq b X pre v) (λr=>br (r=(jI v s).1) (kq b X pre (jI v s).2)):=
 bF λw S R h=>by
  subst ho;refine aq (x4 b X pre _ rfl v s hl) (h.le (aG _)) λr w h=>?_;obtain⟨hr,h⟩:=h.aP;refine aM h λw h=>?_;obtain⟨s1,s2,h⟩:=h.kq b X pre v;refine ac (ac (aj h (Yz X pre _ _) (aj h (YA X pre _ _) ?_)));refine bR (A:=bg) (Q:=aZ s1 KI v.1) (tU s1 v.1 s (by omega)) h λr1 w h=>?_;refine aN h (aas X pre _ _) ?_;refine bR (A:=bg) (Q:=aZ s2 KI v.2) (tU s2 v.2 s (by omega)) h λr2 w h=>?_;refine ac (aB h b (pre++.sl r1::aX s2::mw X) rfl (RY X pre _ _ _ (uJ _)) (Tb X pre _ _ _) λw h=>?_);refine ac (aB h b (pre++.sl r1::aX r2::mw X) rfl (RY X pre _ _ _ (eM _)) (Tc X pre _ _ _) λw h=>?_);refine au.aH ?_ (h.dT b X pre r1 r2 (v.1.filter (λx=>decide (x≠s)),v.2.filter (λx=>decide (x≠s)))).bq;rw[hr];by_cases hp:bY v s=0<;>simp[jI,hp]
end Jn

namespace Lc
open bK bp f_ Jn _root_.Go.X.Tree jE lM mV fh lJ mh F9 Ea yp A3 Pr Lb Ps Tq
abbrev RF:=Ks.T KF
def gm(r:Nat→RF)(i:Nat)(x:RF):Nat→RF:=λj=>if j=i then x else r j
theorem da(r i x):gm r i x i=x:=by simp[gm]
theorem fN(r x)(h:j≠i):gm r i x j=r j:=by simp[gm,h]
def pM(t:Nat→Bool)(i:Nat)(x:Bool):Nat→Bool:=λj=>if j=i then x else t j
theorem wA(t i x):pM t i x i=x:=by simp[pM]
theorem DY(t x)(h:j≠i):pM t i x j=t j:=by simp[pM,h]
abbrev eA(X:Cx)(c:Cf)(r:Nat→RF)(t:Nat→Bool):List Lf:=[aC X.af,aJ (cQ c),aJ (cF c),aJ (cL c),aJ (cW c),aC (cH c),aC (cR c),a_ (cD c),aJ (jU c),aJ (jz c),aJ (r 0).1,aJ (r 0).2.1,aJ (r 0).2.2.1,aC (r 0).2.2.2.1,aC (r 0).2.2.2.2.1,aX (r 0).2.2.2.2.2,aJ (r 1).1,aJ (r 1).2.1,aJ (r 1).2.2.1,aC (r 1).2.2.2.1,aC (r 1).2.2.2.2.1,aX (r 1).2.2.2.2.2,aJ (r 2).1,aJ (r 2).2.1,aJ (r 2).2.2.1,aC (r 2).2.2.2.1,aC (r 2).2.2.2.2.1,aX (r 2).2.2.2.2.2,aJ (r 3).1,aJ (r 3).2.1,aJ (r 3).2.2.1,aC (r 3).2.2.2.1,aC (r 3).2.2.2.2.1,aX (r 3).2.2.2.2.2,aJ (r 4).1,aJ (r 4).2.1,aJ (r 4).2.2.1,aC (r 4).2.2.2.1,aC (r 4).2.2.2.2.1,aX (r 4).2.2.2.2.2,aJ (r 5).1,aJ (r 5).2.1,aJ (r 5).2.2.1,aC (r 5).2.2.2.1,aC (r 5).2.2.2.2.1,aX (r 5).2.2.2.2.2,aJ (r 6).1,aJ (r 6).2.1,aJ (r 6).2.2.1,aC (r 6).2.2.2.1,aC (r 6).2.2.2.2.1,aX (r 6).2.2.2.2.2,aJ (r 7).1,aJ (r 7).2.1,aJ (r 7).2.2.1,aC (r 7).2.2.2.1,aC (r 7).2.2.2.2.1,aX (r 7).2.2.2.2.2,a_ (t 0),a_ (t 1),a_ (t 2),a_ (t 3),a_ (t 4),a_ (t 5),a_ (t 6),a_ (t 7)]
theorem FK(X c r t a b)(hi:i<8):Ks.un KF (((eA X c r t++Lf.sl a::Lf.sl b::mw X).drop (1+9+i*6)).take 6)=some (r i):=by
 have:i=0∨i=1∨i=2∨i=3∨i=4∨i=5∨i=6∨i=7:=by omega
 rcases this with rfl|rfl|rfl|rfl|rfl|rfl|rfl|rfl<;>rfl
theorem Wk(X c r t a b)(hi:i<8):((eA X c r t++Lf.sl a::Lf.sl b::mw X).drop (1+9+i*6)).take 6=Ks.mk KF (r i):=by
 have:i=0∨i=1∨i=2∨i=3∨i=4∨i=5∨i=6∨i=7:=by omega
 rcases this with rfl|rfl|rfl|rfl|rfl|rfl|rfl|rfl<;>rfl
theorem DK(X c r t a b)(hi:i<8):Ks.un [.int .i64] (((eA X c r t++Lf.sl a::Lf.sl b::mw X).drop (1+9+i*6+1)).take 1)=some (r i).2.1:=by
 have:i=0∨i=1∨i=2∨i=3∨i=4∨i=5∨i=6∨i=7:=by omega
 rcases this with rfl|rfl|rfl|rfl|rfl|rfl|rfl|rfl<;>rfl
theorem DL(X c r t a b)(hi:i<8):Ks.un [.int .i64] (((eA X c r t++Lf.sl a::Lf.sl b::mw X).drop (1+9+i*6+2)).take 1)=some (r i).2.2.1:=by
 have:i=0∨i=1∨i=2∨i=3∨i=4∨i=5∨i=6∨i=7:=by omega
 rcases this with rfl|rfl|rfl|rfl|rfl|rfl|rfl|rfl<;>rfl
theorem Ow(X c r t a b)(hi:i<8):Ks.un [.int .u64] (((eA X c r t++Lf.sl a::Lf.sl b::mw X).drop (1+9+i*6+4)).take 1)=some (r i).2.2.2.2.1:=by
 have:i=0∨i=1∨i=2∨i=3∨i=4∨i=5∨i=6∨i=7:=by omega
 rcases this with rfl|rfl|rfl|rfl|rfl|rfl|rfl|rfl<;>rfl
theorem sF(X c r t a b)(hi:i<8):Ks.un [.sl] (((eA X c r t++Lf.sl a::Lf.sl b::mw X).drop (1+9+i*6+5)).take 1)=some (r i).2.2.2.2.2:=by
 have:i=0∨i=1∨i=2∨i=3∨i=4∨i=5∨i=6∨i=7:=by omega
 rcases this with rfl|rfl|rfl|rfl|rfl|rfl|rfl|rfl<;>rfl
theorem RP(X c r t a b)(hi:i<8):((eA X c r t++Lf.sl a::Lf.sl b::mw X).drop (1+9+i*6+5)).take 1=[aX (r i).2.2.2.2.2]:=by
 have:i=0∨i=1∨i=2∨i=3∨i=4∨i=5∨i=6∨i=7:=by omega
 rcases this with rfl|rfl|rfl|rfl|rfl|rfl|rfl|rfl<;>rfl
theorem I1(X c r t a b)(hi:i<8):Ks.un [.bool] (((eA X c r t++Lf.sl a::Lf.sl b::mw X).drop (1+57+i*1)).take 1)=some (t i):=by
 have:i=0∨i=1∨i=2∨i=3∨i=4∨i=5∨i=6∨i=7:=by omega
 rcases this with rfl|rfl|rfl|rfl|rfl|rfl|rfl|rfl<;>rfl
theorem Oy(X c r t a b)(hi:i<8)(x):dE (eA X c r t++Lf.sl a::Lf.sl b::mw X) (1+9+i*6) (Ks.mk KF x)=eA X c (gm r i x) t++Lf.sl a::Lf.sl b::mw X:=by
 have:i=0∨i=1∨i=2∨i=3∨i=4∨i=5∨i=6∨i=7:=by omega
 rcases this with rfl|rfl|rfl|rfl|rfl|rfl|rfl|rfl<;>rfl
theorem HM(X c r t a b)(hi:i<8)(x:Int):dE (eA X c r t++Lf.sl a::Lf.sl b::mw X) (1+9+i*6+1) [aJ x]=eA X c (gm r i ((r i).1,x,(r i).2.2.1,(r i).2.2.2.1,(r i).2.2.2.2.1,(r i).2.2.2.2.2)) t++Lf.sl a::Lf.sl b::mw X:=by
 have:i=0∨i=1∨i=2∨i=3∨i=4∨i=5∨i=6∨i=7:=by omega
 rcases this with rfl|rfl|rfl|rfl|rfl|rfl|rfl|rfl<;>rfl
theorem Oz(X c r t a b)(hi:i<8)(x:Int):dE (eA X c r t++Lf.sl a::Lf.sl b::mw X) (1+9+i*6+2) [aJ x]=eA X c (gm r i ((r i).1,(r i).2.1,x,(r i).2.2.2.1,(r i).2.2.2.2.1,(r i).2.2.2.2.2)) t++Lf.sl a::Lf.sl b::mw X:=by
 have:i=0∨i=1∨i=2∨i=3∨i=4∨i=5∨i=6∨i=7:=by omega
 rcases this with rfl|rfl|rfl|rfl|rfl|rfl|rfl|rfl<;>rfl
theorem Wl(X c r t a b)(hi:i<8)(x:Int):dE (eA X c r t++Lf.sl a::Lf.sl b::mw X) (1+9+i*6+3) [aC x]=eA X c (gm r i ((r i).1,(r i).2.1,(r i).2.2.1,x,(r i).2.2.2.2.1,(r i).2.2.2.2.2)) t++Lf.sl a::Lf.sl b::mw X:=by
 have:i=0∨i=1∨i=2∨i=3∨i=4∨i=5∨i=6∨i=7:=by omega
 rcases this with rfl|rfl|rfl|rfl|rfl|rfl|rfl|rfl<;>rfl
theorem OA(X c r t a b)(hi:i<8)(x:Int):dE (eA X c r t++Lf.sl a::Lf.sl b::mw X) (1+9+i*6+4) [aC x]=eA X c (gm r i ((r i).1,(r i).2.1,(r i).2.2.1,(r i).2.2.2.1,x,(r i).2.2.2.2.2)) t++Lf.sl a::Lf.sl b::mw X:=by
 have:i=0∨i=1∨i=2∨i=3∨i=4∨i=5∨i=6∨i=7:=by omega
 rcases this with rfl|rfl|rfl|rfl|rfl|rfl|rfl|rfl<;>rfl
theorem OB(X c r t a b)(hi:i<8)(x):dE (eA X c r t++Lf.sl a::Lf.sl b::mw X) (1+9+i*6+5) [aX x]=eA X c (gm r i ((r i).1,(r i).2.1,(r i).2.2.1,(r i).2.2.2.1,(r i).2.2.2.2.1,x)) t++Lf.sl a::Lf.sl b::mw X:=by
 have:i=0∨i=1∨i=2∨i=3∨i=4∨i=5∨i=6∨i=7:=by omega
 rcases this with rfl|rfl|rfl|rfl|rfl|rfl|rfl|rfl<;>rfl
theorem HN(X c r t a b)(hi:i<8)(x):dE (eA X c r t++Lf.sl a::Lf.sl b::mw X) (1+57+i*1) [a_ x]=eA X c r (pM t i x)++Lf.sl a::Lf.sl b::mw X:=by
 have:i=0∨i=1∨i=2∨i=3∨i=4∨i=5∨i=6∨i=7:=by omega
 rcases this with rfl|rfl|rfl|rfl|rfl|rfl|rfl|rfl<;>rfl
def fP(v:Qm)(j:Nat):List Sg:=match v.fl j with
 |none=>[]
 |some f=>f.sg
abbrev zF:RF:=(0,0,0,0,0,⟨none,0,0⟩)
def yo(v:Qm)(j:Nat)(s:Sl):RF:=match v.fl j with
 |none=>zF
 |some f=>((j:Int),f.cr,fo v j,f.nx,f.si,s)
abbrev mc(x:RF):Sl:=x.2.2.2.2.2
structure Rq(v:Qm)(r:Nat→RF)(t:Nat→Bool):Prop where
 t:∀j,j<8→t j=(v.fl j).isSome
 r:∀j,j<8→r j=yo v j (mc (r j))
abbrev rC(r:Nat→RF)(xs:Nat→List Sg):Nat→SP:=λj=>aQ (mc (r j)) KS (xs j)
def cN(b:Nat)(X:Cx)(v:Qm):SP:=yj (λx:(Nat→RF)×(Nat→Bool)=>Rq v x.1 x.2) (λx=>kq b X (eA X v.c x.1 x.2) v.lv^eB (rC x.1 (fP v)) 8)
instance(b:Nat)(X:Cx)(v:Qm):nt (cN b X v):=by unfold cN;infer_instance
section
variable {w0 w:World} {S0 R0:Nat→Prop} {F G:SP}
theorem _root_.Go.X.au.cN(h:au w0 S0 R0 w F)(b X v)[tk:Take (Lc.cN b X v) F G]:∃r t,Rq v r t∧au w0 S0 R0 w (kq b X (eA X v.c r t) v.lv^eB (rC r (fP v)) 8^G):=by
 obtain⟨x,hx,h⟩:=(h.le tk.le).vQ;exact⟨x.1,x.2,hx,h.aK⟩
theorem _root_.Go.X.au.gk(h:au w0 S0 R0 w F)(b:Nat)(X:Cx)(v:Qm)(r:Nat→RF)(t:Nat→Bool)(hr:Rq v r t)[tk:Take (kq b X (eA X v.c r t) v.lv^eB (rC r (fP v)) 8) F G]:au w0 S0 R0 w (Lc.cN b X v^G):=
 (h.le tk.le).r_ (f:=λx:(Nat→RF)×(Nat→Bool)=>kq b X (eA X v.c x.1 x.2) v.lv^eB (rC x.1 (fP v)) 8) (φ:=λx=>Rq v x.1 x.2) (r,t) hr
theorem _root_.Go.X.au.A8(h:au w0 S0 R0 w F)(r xs)(hi:i<8)[tk:Take (eB (rC r xs) 8) F G]:au w0 S0 R0 w (aQ (mc (r i)) KS (xs i)^eB (tI (rC r xs) i) 8^G):=
 ((h.le tk.le).le (ba (oW (rC r xs) hi) Le.rfl)).le (bS _ _ _)
theorem _root_.Go.X.au.KX(h:au w0 S0 R0 w F)(r r' xs ys)(hi:i<8)(hr:∀j,j≠i→r' j=r j)(hx:∀j,j≠i→ys j=xs j)[tk:Take (aQ (mc (r' i)) KS (ys i)^eB (tI (rC r xs) i) 8) F G]:au w0 S0 R0 w (eB (rC r' ys) 8^G):=by
 have e:eB (tI (rC r xs) i) 8=eB (tI (rC r' ys) i) 8:=iw 8 λj _=>by
  unfold tI;split
  ·rfl
  ·rename_i e;show aQ _ KS _=aQ _ KS _;rw[hr j e,hx j e]
 have h:=h.le tk.le;rw[e]at h;exact h.le (ba (rR (rC r' ys) hi) Le.rfl)
end
theorem Rq.none{v:Qm}{r:Nat→RF}{t:Nat→Bool}(h:Rq v r t){i:Nat}(hi:i<8)(hf:v.fl i=none):t i=false∧r i=zF∧fP v i=[]:=by
 have h1:=h.t i hi;have h2:=h.r i hi;unfold yo at h2;rw[hf]at h1 h2;exact⟨h1,h2,by unfold fP;rw[hf]⟩
theorem Rq.some{v:Qm}{r:Nat→RF}{t:Nat→Bool}(h:Rq v r t){i:Nat}(hi:i<8){f:Fl}(hf:v.fl i=some f):t i=true∧r i=((i:Int),f.cr,fo v i,f.nx,f.si,mc (r i))∧fP v i=f.sg:=by
 have h1:=h.t i hi;have h2:=h.r i hi;unfold yo at h2;rw[hf]at h1 h2;exact⟨h1,h2,by unfold fP;rw[hf]⟩
def lp(v:Qm):Int:=match v.ks with
 |[]=>-1
 |k::_=>k.2
def yI(v:Qm)(j:Nat):Int:=match v.fl j with
 |none=>0
 |some f=>cC f
def F7(v:Qm)(k:Nat)(x:Int):Prop:=(x=-1∧∀j,j<k→fo v j≠3)∨∃m:Nat,x=(m:Int)∧m<k∧fo v m=3∧∀j,j<k→fo v j=3→yI v m<yI v j∨(yI v m=yI v j∧m≤j)
theorem Gg(hv:iM v){x:Int}(h:F7 v 8 x):x=lp v:=by
 have hmem:∀k∈v.ks,∃i:Nat,i<8∧fo v i=3∧k=(yI v i,(i:Int)):=λk hk=>by
  obtain⟨i,f,h1,h2,h3,h4⟩:=(hv.ks k).1 hk;exact⟨i,(hv.fl i f h1).1,vU.2 ⟨h3,f,h1,h2⟩,by rw[h4];unfold yI;rw[h1]⟩
 unfold lp;rcases h with⟨e,h⟩|⟨m,e,hm,hp,h⟩
 ·cases hk:v.ks with
  |nil=>exact e
  |cons k l=>
   obtain⟨i,hi,hp,_⟩:=hmem k (by rw[hk];simp);exact absurd hp (h i hi)
 ·obtain⟨h3,f,hf,hs⟩:=vU.1 hp;have hin:(yI v m,(m:Int))∈v.ks:=(hv.ks _).2 ⟨m,f,hf,hs,h3,by unfold yI;rw[hf]⟩;cases hk:v.ks with
  |nil=>rw[hk]at hin;cases hin
  |cons k l=>
   obtain⟨i,hi,hpi,he⟩:=hmem k (by rw[hk];simp);have hb:=h i hi hpi;rw[hk]at hin;rcases dY.1 hin with e2|hin
   ·rw[e,←e2]
   ·have hsr:=hv.wH;rw[hk]at hsr;have:=(ra.1 hsr).1 _ hin;rw[o_,he]at this;have h4:yI v i<yI v m∨(yI v i=yI v m∧(i:Int)<(m:Int)):=this;omega
theorem qd(b:Nat)(X:Cx)(v:Qm)(hv:iM v)(r:Nat→RF)(t:Nat→Bool)(hq:Rq v r t):bx (LR (some ⟨b,1⟩)) (kq b X (eA X v.c r t) v.lv^eB (rC r (fP v)) 8) (λx=>br (x=lp v) (kq b X (eA X v.c r t) v.lv^eB (rC r (fP v)) 8)):=
 bF λw0 S R h=>by
  refine cZ (λ_:Int×Int=>kq b X (eA X v.c r t) v.lv^eB (rC r (fP v)) 8) (λy:Int×Int=>(0≤y.2∧y.2≤8)∧F7 v y.2.toNat y.1) (λy:Int×Int=>(8-y.2).toNat) h ⟨by decide,.inl ⟨rfl,λj hj=>absurd hj (by simp)⟩⟩ ?_;rintro(y0:Int×Int) w ⟨hk,hb⟩ h;obtain⟨x,k⟩:=y0;dsimp only at hk hb;have hwk:i64.wrap (k+1)=k+1:=fu;refine ae (λc=>?_) λc=>?_
  ·have c8:k<8:=cS;clear c;obtain⟨j,hj⟩:∃j:Nat,k=(j:Int):=⟨k.toNat,by omega⟩;have hj8:j<8:=(by omega);have hj1:(k+1).toNat=j+1:=(by omega);rw[hj]at hb hwk hj1⊢;rw[eW]at hb;refine aS h (λ_=>kq b X (eA X v.c r t) v.lv^eB (rC r (fP v)) 8) (λy:Bool=>(y=true→F7 v (j+1) (j:Int))∧(y=false→F7 v (j+1) x)) (λ(y:Bool) w hy h=>?_) ?_
   ·refine ae (λc=>?_) λc=>?_
    ·rw[hwk];exact⟨⟨⟨by show 0≤(j:Int)+1∧(j:Int)+1≤8;omega,by show F7 v ((j:Int)+1).toNat (j:Int);rw[hj1];exact hy.1 c⟩,h⟩,by show(8-((j:Int)+1)).toNat<(8-(j:Int)).toNat;omega⟩
    ·rw[hwk];exact⟨⟨⟨by show 0≤(j:Int)+1∧(j:Int)+1≤8;omega,by show F7 v ((j:Int)+1).toNat x;rw[hj1];exact hy.2 c⟩,h⟩,by show(8-((j:Int)+1)).toNat<(8-(j:Int)).toNat;omega⟩
   ·have skip:fo v j≠3→F7 v (j+1) x:=λhp=>by
     rcases hb with⟨e,h⟩|⟨m,e,hm,hpm,h⟩
     ·exact .inl ⟨e,λq hq=>by
       by_cases e2:q=j
       ·rw[e2];exact hp
       ·exact h q (by omega)⟩
     ·exact .inr ⟨m,e,by omega,hpm,λq hq hpq=>by
       by_cases e2:q=j
       ·rw[e2]at hpq;exact absurd hpq hp
       ·exact h q (by omega) hpq⟩
    obtain⟨s1,s2,h⟩:=h.kq b X (eA X v.c r t) v.lv;refine aM h λw h=>ac ⟨by omega,?_⟩;rw[eW];refine aj h (I1 X v.c r t s1 s2 hj8) ?_;cases hf:v.fl j with
    |none=>
     rw[(hq.none hj8 hf).1];refine ae (λc=>(by cases c)) λ_=>⟨⟨λe=>(by cases e),λ_=>skip λe=>?_⟩,(h.dT b X (eA X v.c r t) s1 s2 v.lv).aK⟩;obtain⟨_,f,hf2,_⟩:=vU.1 e;rw[hf]at hf2;cases hf2
    |some f=>
     obtain⟨q1,q2,q3⟩:=hq.some hj8 hf;rw[q1];refine ae (λ_=>?_) λc=>(by cases c);refine ac ⟨by omega,?_⟩;refine aj h (DL X v.c r t s1 s2 hj8) ?_;have e2:(r j).2.2.1=fo v j:=by rw[q2]
     rw[e2];refine ae (λc=>?_) λc=>?_
     ·have hp:fo v j=3:=cS;obtain⟨_,f',hf',hs⟩:=vU.1 hp;rw[hf]at hf';cases hf';refine ae (λc2=>?_) λc2=>?_
      ·have c2:x<0:=gJ;refine⟨⟨λ_=>?_,λe=>(by cases e)⟩,(h.dT b X (eA X v.c r t) s1 s2 v.lv).aK⟩;rcases hb with⟨e,h⟩|⟨m,e,_⟩
       ·exact .inr ⟨j,rfl,by omega,hp,λq hq hpq=>by
         by_cases e2:q=j
         ·rw[e2];exact .inr ⟨rfl,eM _⟩
         ·exact absurd hpq (h q (by omega))⟩
       ·omega
      ·have c2:¬x<0:=gJ;obtain⟨m,e,hm,hpm,hbm⟩:∃m:Nat,x=(m:Int)∧m<j∧fo v m=3∧∀q,q<j→fo v q=3→yI v m<yI v q∨(yI v m=yI v q∧m≤q):=by
        rcases hb with⟨e,_⟩|h
        ·omega
        ·exact h
       have hm8:m<8:=(by omega);obtain⟨_,g,hg,hgs⟩:=vU.1 hpm;obtain⟨p1,p2,p3⟩:=hq.some hm8 hg;have hmx:x.toNat=m:=(by omega);refine ac (ac ⟨by omega,by omega,?_⟩);dsimp only;rw[hmx];refine aj h (FK X v.c r t s1 s2 hj8) (aj h (FK X v.c r t s1 s2 hm8) ?_);cases hss:f.sg with
       |nil=>exact absurd hss hs
       |cons a1 l1=>
       cases hgg:g.sg with
       |nil=>exact absurd hgg hgs
       |cons a2 l2=>
       rw[hss]at q3;rw[hgg]at p3;have h:=h.A8 r (fP v) hj8;rw[q3]at h;refine bR (rP (r j) a1 l1) h λr13 w h=>?_;obtain⟨hr13,h⟩:=h.aP;rw[hr13];have h:=h.KX r r (fP v) (fP v) hj8 (λ_ _=>rfl) (λ_ _=>rfl) (tk:=by rw[q3];infer_instance);refine aN h (Wk X v.c r t s1 s2 hm8) ?_;have h:=h.A8 r (fP v) hm8;rw[p3]at h;refine bR (rP (r m) a2 l2) h λr14 w h=>?_;obtain⟨hr14,h⟩:=h.aP;rw[hr14];have h:=h.KX r r (fP v) (fP v) hm8 (λ_ _=>rfl) (λ_ _=>rfl) (tk:=by rw[p3];infer_instance);have t1:(if uZ a1>(r j).2.2.2.1 then uZ a1 else(r j).2.2.2.1)=yI v j:=by
        have:(r j).2.2.2.1=f.nx:=(by rw[q2]);rw[this];unfold yI cC;rw[hf];simp only;rw[hss]
       have t2:(if uZ a2>(r m).2.2.2.1 then uZ a2 else(r m).2.2.2.1)=yI v m:=by
        have:(r m).2.2.2.1=g.nx:=(by rw[p2]);rw[this];unfold yI cC;rw[hg];simp only;rw[hgg]
       rw[t1,t2];refine⟨⟨λc=>?_,λc=>?_⟩,(h.dT b X (eA X v.c r t) s1 s2 v.lv).aK⟩
       ·have c:yI v j<yI v m:=bZ c;refine .inr ⟨j,rfl,by omega,hp,λq hq hpq=>?_⟩;by_cases e2:q=j
        ·rw[e2];exact .inr ⟨rfl,eM _⟩
        ·have:=hbm q (by omega) hpq;left;omega
       ·have c:¬yI v j<yI v m:=cd c;refine .inr ⟨m,e,by omega,hpm,λq hq hpq=>?_⟩;by_cases e2:q=j
        ·rw[e2];omega
        ·exact hbm q (by omega) hpq
     ·have hp:fo v j≠3:=cS;exact⟨⟨λe=>(by cases e),λ_=>skip hp⟩,(h.dT b X (eA X v.c r t) s1 s2 v.lv).aK⟩
  ·have c:¬k<8:=cS;have e:k.toNat=8:=(by omega);rw[e]at hb;exact au.aH (Gg hv hb) h
end Lc

namespace Ss
open bK bp f_ Jn _root_.Go.X.Tree jE lM mV fh lJ mh F9 Ea yp A3 Pr Lb Ps Tq Lc
def qK(lv:LV)(i p:Int):LV:=if p=2 then((dI lv i).1,(dI lv i).2++[i])else dI lv i
abbrev xp(x:RF)(p:Int):RF:=(x.1,x.2.1,p,x.2.2.2.1,x.2.2.2.2.1,x.2.2.2.2.2)
theorem vV(b:Nat)(X:Cx)(c:Cf)(r:Nat→RF)(t:Nat→Bool)(lv:LV)(hv:wG lv)(i:Nat)(hi:i<8)(p:Int)(hp:p≠1):bx (Gm (some ⟨b,1⟩) (i:Int) p) (kq b X (eA X c r t) lv) (λ_=>kq b X (eA X c (gm r i (xp (r i) p)) t) (qK lv (i:Int) p)):=
 bF λw0 S R h=>by
  have hl:=hv.GC;have ho:=hv.out (i:Int);have hol:=ho.GC;refine ac (aq (vO b X (eA X c r t) (1+65) rfl lv (i:Int) (by omega)) (h.le (aG _)) λ_ w h=>?_);obtain⟨_,h⟩:=h.aP;rw[show(jI lv (i:Int)).2=dI lv (i:Int)from rfl]at h;obtain⟨s1,s2,h⟩:=h.kq b X (eA X c r t) (dI lv (i:Int));refine ac ⟨by omega,?_⟩;rw[eW];refine aB h b (eA X c (gm r i (xp (r i) p)) t++.sl s1::aX s2::mw X) rfl (jd (by show 1+9+i*6+2+1≤140;omega)) (Oz X c r t s1 s2 hi p) λw h=>?_;have h:=h.dT b X (eA X c (gm r i (xp (r i) p)) t) s1 s2 (dI lv (i:Int));have e1:(p==(1:Int))=false:=by simpa using hp
  refine ae (λc1=>?_) λc1=>?_
  ·have c1:p=2:=by
    rw[e1,Ah]at c1;simpa using c1
   rw[e1];refine ac (aq (zL b X (eA X c (gm r i (xp (r i) p)) t) (1+65) rfl (dI lv (i:Int)) (i:Int) false (by omega)) h λ_ w h=>?_);obtain⟨_,h⟩:=h.aP;have hpl:bY (dI lv (i:Int)) (i:Int)=0:=lX.2 (xo lv (i:Int));have e:(kE (dI lv (i:Int)) (i:Int) false).2=qK lv (i:Int) p:=by
    rw[kE,aw (by omega),aw (by rw[hpl];simp),aw (by simp)];unfold qK;rw[aF c1]
   rw[e]at h;exact h.aK
  ·have c1:¬p=2:=by
    rw[e1,Ah]at c1;simpa using c1
   have e:qK lv (i:Int) p=dI lv (i:Int):=(by unfold qK;rw[aw c1]);rw[e];exact h.aK
theorem DI(b X v)(hv:iM v)(af:Int):bx (UD (some ⟨b,1⟩) af) (cN b X v) (λ_=>cN b X (bM v af)):=
 bF λw0 S R h=>by
  have h:au w0 S R w0 (cN b X (cq v af (0:Int).toNat)):=by
   have e:cq v af (0:Int).toNat=v:=(by unfold cq;simp);rw[e];exact h
  refine cZ (λy:Int=>cN b X (cq v af y.toNat)) (λy:Int=>0≤y∧y≤8) (λy:Int=>(8-y).toNat) h ⟨by decide,by decide⟩ ?_;rintro(k:Int) w hk h;have hwk:i64.wrap (k+1)=k+1:=fu;refine ae (λc=>?_) λc=>?_
  ·have c8:k<8:=cS;clear c;obtain⟨j,hj⟩:∃j:Nat,k=(j:Int):=⟨k.toNat,by omega⟩;have hj8:j<8:=(by omega);have hj1:(k+1).toNat=j+1:=(by omega);rw[hj]at h hwk hj1⊢;rw[eW]at h;obtain⟨r,t,hq,h⟩:=h.cN b X (cq v af j);have hfj:(cq v af j).fl j=v.fl j:=(by unfold cq;simp);have hid:=za v af j;have hpl:fo (cq v af j) j=fo v j:=(by unfold fo;rw[hfj]);have up:idle v j 3000000000 af=false→cq v af (j+1)=cq v af j:=λe=>by
    unfold cq
    congr 1
    funext q
    have:(q<j+1∧idle v q 3000000000 af=true)↔(q<j∧idle v q 3000000000 af=true):=⟨λh=>⟨by
     have:q≠j:=λe2=>by have:=h.2;rw[e2,e]at this;cases this
     omega,h.2⟩,λh=>⟨by omega,h.2⟩⟩
    by_cases h:q<j∧idle v q 3000000000 af=true
    ·rw[aF h,aF (this.2 h)]
    ·rw[aw h,aw (λx=>h (this.1 x))]
   refine aS h (λ_=>kq b X (eA X v.c r t) v.lv^eB (rC r (fP (cq v af j))) 8) (λy:Bool=>y=idle v j 3000000000 af) (λ(y:Bool) w hy h=>?_) ?_
   ·rw[hy];refine ae (λc=>?_) λc=>?_
    ·obtain⟨f,hf,hs,hnl⟩:=qg c;obtain⟨s1,s2,h⟩:=h.kq b X (eA X v.c r t) v.lv;refine aM h λw h=>ac (ac ⟨by omega,?_⟩);rw[eW];refine aB h b (eA X v.c r (pM t j false)++.sl s1::aX s2::mw X) rfl (jd (by show 1+57+j*1+1≤140;omega)) (HN X v.c r t s1 s2 hj8 false) λw h=>⟨by omega,?_⟩;refine aB h b (eA X v.c (gm r j zF) (pM t j false)++.sl s1::aX s2::mw X) rfl (jd (by show 1+9+j*6+6≤140;omega)) (Oy X v.c r (pM t j false) s1 s2 hj8 zF) λw h=>?_;have h:=h.dT b X (eA X v.c (gm r j zF) (pM t j false)) s1 s2 v.lv;have h:=h.A8 r (fP (cq v af j)) hj8;have h:=h.nil KS;have hfn:(cq v af (j+1)).fl j=none:=by unfold cq;exact aF ⟨by omega,c⟩
     have hfo:∀q,q≠j→(cq v af (j+1)).fl q=(cq v af j).fl q:=λq e=>by
      unfold cq;have:(q<j+1∧idle v q 3000000000 af=true)↔(q<j∧idle v q 3000000000 af=true):=⟨λh=>⟨by omega,h.2⟩,λh=>⟨by omega,h.2⟩⟩;simp only;by_cases h:q<j∧idle v q 3000000000 af=true
      ·rw[aF h,aF (this.2 h)]
      ·rw[aw h,aw (λx=>h (this.1 x))]
     have hsn:fP (cq v af (j+1)) j=[]:=(by unfold fP;rw[hfn]);have h:=h.KX r (gm r j zF) (fP (cq v af j)) (fP (cq v af (j+1))) hj8 (λq e=>fN _ _ e) (λq e=>by unfold fP;rw[hfo q e]) (tk:=by rw[hsn,da];infer_instance);have hq2:Rq (cq v af (j+1)) (gm r j zF) (pM t j false):=⟨λq hq8=>by
      by_cases e:q=j
      ·rw[e,wA,hfn];rfl
      ·rw[DY _ _ e,hfo q e];exact hq.t q hq8,λq hq8=>by
      by_cases e:q=j
      ·rw[e,da];unfold yo;rw[hfn]
      ·rw[fN _ _ e];have:=hq.r q hq8;unfold yo at this⊢;rw[hfo q e];have hp2:fo (cq v af (j+1)) q=fo (cq v af j) q:=by unfold fo;rw[hfo q e]
       rw[hp2];exact this⟩
     rw[hwk];refine⟨⟨by omega,?_⟩,by omega⟩;rw[hj1];exact(h.gk b X (cq v af (j+1)) (gm r j zF) (pM t j false) hq2).aK
    ·rw[hwk];refine⟨⟨by omega,?_⟩,by omega⟩;rw[hj1,up c];exact(h.gk b X (cq v af j) r t hq).aK
   ·obtain⟨s1,s2,h⟩:=h.kq b X (eA X v.c r t) v.lv;refine ac ⟨by omega,?_⟩;rw[eW];refine aj h (I1 X v.c r t s1 s2 hj8) ?_;cases hf:v.fl j with
    |none=>
     rw[(hq.none hj8 (hfj.trans hf)).1];refine ae (λc=>(by cases c)) λ_=>⟨?_,(h.dT b X (eA X v.c r t) s1 s2 v.lv).aK⟩;unfold idle;rw[hf]
    |some f=>
     obtain⟨q1,q2,q3⟩:=hq.some hj8 (hfj.trans hf);rw[q1];refine ae (λ_=>?_) λc=>(by cases c);refine ac ⟨by omega,aj h (DL X v.c r t s1 s2 hj8) ?_⟩;have e2:(r j).2.2.1=fo v j:=by rw[q2,hpl]
     rw[e2];refine ae (λc=>?_) λc=>?_
     ·have hp:fo v j=0:=cS;refine ac ⟨by omega,aj h (Ow X v.c r t s1 s2 hj8) ?_⟩;have e4:(r j).2.2.2.2.1=f.si:=(by rw[q2]);rw[e4];refine aq (fL f.si 3000000000 (hv.fl j f hf).2.si (by unfold U;omega)) h λx w h=>?_;obtain⟨hx,h⟩:=h.aP;rw[hx];refine⟨?_,(h.dT b X (eA X v.c r t) s1 s2 v.lv).aK⟩;unfold idle;rw[hf];simp[hp]
     ·have hp:¬fo v j=0:=cS;refine⟨?_,(h.dT b X (eA X v.c r t) s1 s2 v.lv).aK⟩;unfold idle;rw[hf];simp[hp]
  ·have c:¬k<8:=cS;have e:k.toNat=8:=(by omega);rw[e]at h;obtain⟨r,t,hq,h⟩:=h.cN b X (cq v af 8);have hfo:∀q,q<8→(bM v af).fl q=(cq v af 8).fl q:=λq hq=>by
    show(if _ then _ else _)=(if _ then _ else _);by_cases h:idle v q 3000000000 af=true
    ·rw[aF h,aF ⟨hq,h⟩]
    ·rw[aw h,aw (λx=>h x.2)]
   have hq2:Rq (bM v af) r t:=⟨λq hq8=>by rw[hfo q hq8];exact hq.t q hq8,λq hq8=>by
    have:=hq.r q hq8;unfold yo at this⊢;rw[hfo q hq8];have hp2:fo (bM v af) q=fo (cq v af 8) q:=(by unfold fo;rw[hfo q hq8]);rw[hp2];exact this⟩
   have e2:eB (rC r (fP (cq v af 8))) 8=eB (rC r (fP (bM v af))) 8:=iw 8 λq hq8=>by
    show aQ _ KS (fP _ q)=aQ _ KS (fP _ q);unfold fP;rw[hfo q hq8]
   rw[e2]at h;exact(h.gk b X (bM v af) r t hq2).aK
theorem Oo(b:Nat)(X:Cx)(v:Qm)(hv:iM v)(r:Nat→RF)(t:Nat→Bool)(hq:Rq v r t):bx (UE (some ⟨b,1⟩)) (kq b X (eA X v.c r t) v.lv^eB (rC r (fP v)) 8) (λx=>br (x=v.n) (kq b X (eA X v.c r t) v.lv^eB (rC r (fP v)) 8)):=
 bF λw0 S R h=>by
  refine cZ (λ_:Int×Int=>kq b X (eA X v.c r t) v.lv^eB (rC r (fP v)) 8) (λy:Int×Int=>(0≤y.2∧y.2≤8)∧y.1=FY v.fl y.2.toNat∧y.1≤512*y.2) (λy:Int×Int=>(8-y.2).toNat) h ⟨by decide,rfl,by decide⟩ ?_;rintro(y0:Int×Int) w ⟨hk,hb,hb2⟩ h;obtain⟨x,k⟩:=y0;dsimp only at hk hb hb2;have hwk:i64.wrap (k+1)=k+1:=fu;have hx0:0≤x:=by rw[hb];exact DQ _ _
  refine ae (λc=>?_) λc=>?_
  ·have c8:k<8:=cS;clear c;obtain⟨j,hj⟩:∃j:Nat,k=(j:Int):=⟨k.toNat,by omega⟩;have hj8:j<8:=(by omega);have hj1:(k+1).toNat=j+1:=(by omega);rw[hj]at hb hwk hj1 hb2⊢;rw[eW]at hb;obtain⟨s1,s2,h⟩:=h.kq b X (eA X v.c r t) v.lv;refine ac ⟨by omega,?_⟩;rw[eW];refine aj h (sF X v.c r t s1 s2 hj8) ?_;have h:=h.A8 r (fP v) hj8;have hsl:=(h.rd (s:=mc (r j))).2;have h:=h.KX r r (fP v) (fP v) hj8 (λ_ _=>rfl) (λ_ _=>rfl);have hcn:(((mc (r j)).len:Nat):Int)=yi (v.fl j)∧yi (v.fl j)≤512:=by
    rw[hsl];unfold fP;cases hf:v.fl j with
    |none=>exact⟨rfl,by decide⟩
    |some f=>
     have:=(hv.len hf).2;exact⟨rfl,by show((f.sg.length:Nat):Int)≤512;omega⟩
   have hwx:i64.wrap (x+(((mc (r j)).len:Nat):Int))=x+yi (v.fl j):=(by rw[hcn.1];exact wi (by have:=Gu (v.fl j);omega) (by omega));rw[hwk];rw[show i64.wrap ((x,(j:Int)).1+(((r j).2.2.2.2.2.len:Nat):Int))=x+yi (v.fl j)from hwx];refine⟨⟨⟨by show 0≤(j:Int)+1∧(j:Int)+1≤8;omega,?_,by show x+yi (v.fl j)≤512*((j:Int)+1);omega⟩,(h.dT b X (eA X v.c r t) s1 s2 v.lv).aK⟩,by show(8-((j:Int)+1)).toNat<(8-(j:Int)).toNat;omega⟩;show x+yi (v.fl j)=FY v.fl ((j:Int)+1).toNat;rw[hj1,hb];rfl
  ·have c:¬k<8:=cS;have e:k.toNat=8:=(by omega);rw[e]at hb;exact au.aH (hb.trans hv.n.symm) h
theorem Og(b X v)(hv:iM v):bx (Y5 (some ⟨b,1⟩)) (cN b X v) (λx=>br (x=((lq v.ks).1.1,(lq v.ks).2)) (cN b X v)):=
 bF λw0 S R h=>by
  obtain⟨r,t,hq,h⟩:=(h.le (aG _)).cN b X v;refine aq (qd b X v hv r t hq) h λx w h=>?_;obtain⟨hx,h⟩:=h.aP;rw[hx];cases hks:v.ks with
  |nil=>
   have e:lp v=-1:=(by unfold lp;rw[hks]);rw[e];refine ae (λ_=>?_) λc=>(by cases c);exact au.aH rfl (h.gk b X v r t hq).aK
  |cons k l=>
   obtain⟨i,f,hf,hs,hni,he⟩:=(hv.ks k).1 (by rw[hks];simp);have hi8:=(hv.fl i f hf).1;have e:lp v=(i:Int):=by unfold lp;rw[hks,he]
   rw[e];refine ae (λc=>?_) λ_=>?_
   ·exfalso;have c:(i:Int)<0:=cS;omega
   obtain⟨q1,q2,q3⟩:=hq.some hi8 hf;obtain⟨s1,s2,h⟩:=h.kq b X (eA X v.c r t) v.lv;refine ac ⟨by omega,?_⟩;rw[eW];refine aj h (FK X v.c r t s1 s2 hi8) ?_;cases hss:f.sg with
   |nil=>exact absurd hss hs
   |cons a1 l1=>
   rw[hss]at q3;have h:=h.A8 r (fP v) hi8;rw[q3]at h;refine bR (rP (r i) a1 l1) h λr13 w h=>?_;obtain⟨hr13,h⟩:=h.aP;rw[hr13];have h:=h.KX r r (fP v) (fP v) hi8 (λ_ _=>rfl) (λ_ _=>rfl) (tk:=by rw[q3];infer_instance);have h:=h.dT b X (eA X v.c r t) s1 s2 v.lv;refine au.aH ?_ (h.gk b X v r t hq).aK;have e3:(r i).2.2.2.1=f.nx:=by rw[q2]
   rw[e3];have e4:(if uZ a1>f.nx then uZ a1 else f.nx)=cC f:=by unfold cC;rw[hss]
   rw[e4,he]
   rfl
theorem xH(v i x lv ks)(n:Int)(e:j≠i):fP {v with fl:=jK v.fl i x,lv:=lv,ks:=ks,n:=n} j=fP v j:=by
 unfold fP;show(match jK v.fl i x j with|none=>[]|some f=>f.sg)=_;rw[ec _ _ e]
 try rfl
theorem kv{u v:Qm}{j:Nat}(hf:u.fl j=v.fl j)(hl:bY u.lv (j:Int)=bY v.lv (j:Int)):fo u j=fo v j:=by unfold fo;rw[hf,hl]
theorem xq(lv){i j:Int}(h:j≠i):bY (dI lv i) j=bY lv j:=by
 unfold bY dI;simp only[tS,j_,ne_eq];simp[h]
theorem Hz(b X v)(hv:iM v)(i:Int):bx (TW (some ⟨b,1⟩) i) (cN b X v) (λx=>aQ x KS (cz v i).1^cN b X (cz v i).2):=
 bF λw0 S R h=>by
  refine aS h (λ_=>cN b X v) (λ_=>(0≤i∧i≤7)∧∃f,v.fl i.toNat=some f) (λ_ w hh h=>?_) ?_
  ·obtain⟨hi,f,hf⟩:=hh;have hi8:i.toNat<8:=by omega
   have hl:=hv.lv.GC;obtain⟨r,t,hq,h⟩:=(h.le (aG _)).cN b X v;obtain⟨q1,q2,q3⟩:=hq.some hi8 hf;obtain⟨s1,s2,h⟩:=h.kq b X (eA X v.c r t) v.lv;refine ac ⟨by omega,aj h (sF X v.c r t s1 s2 hi8) ?_⟩;have h:=h.dT b X (eA X v.c r t) s1 s2 v.lv;refine ac (aq (vO b X (eA X v.c r t) (1+65) rfl v.lv i (by omega)) h λ_ w h=>?_);obtain⟨_,h⟩:=h.aP;rw[show(jI v.lv i).2=dI v.lv i from rfl]at h;obtain⟨s1,s2,h⟩:=h.kq b X (eA X v.c r t) (dI v.lv i);refine aM h λw h=>ac (ac ⟨by omega,?_⟩);refine aB h b (eA X v.c r (pM t i.toNat false)++.sl s1::aX s2::mw X) rfl (jd (by show 1+57+i.toNat*1+1≤140;omega)) (HN X v.c r t s1 s2 hi8 false) λw h=>⟨by omega,?_⟩;refine aB h b (eA X v.c (gm r i.toNat zF) (pM t i.toNat false)++.sl s1::aX s2::mw X) rfl (jd (by show 1+9+i.toNat*6+6≤140;omega)) (Oy X v.c r (pM t i.toNat false) s1 s2 hi8 zF) λw h=>?_;have h:=h.dT b X (eA X v.c (gm r i.toNat zF) (pM t i.toNat false)) s1 s2 (dI v.lv i);have h:=h.A8 r (fP v) hi8;rw[q3]at h;have h:=h.nil KS;obtain⟨ks',n',hce⟩:∃ks' n',cz v i=(f.sg,{v with fl:=jK v.fl i.toNat none,lv:=dI v.lv i,ks:=ks',n:=n'}):=by
    unfold cz;rw[aw (λx=>x hi),hf];exact⟨_,_,rfl⟩
   rw[hce];have hsn:fP {v with fl:=jK v.fl i.toNat none,lv:=dI v.lv i,ks:=ks',n:=n'} i.toNat=[]:=by
    unfold fP;show(match jK v.fl i.toNat none i.toNat with|none=>[]|some f=>f.sg)=_;rw[co]
   have h:=h.KX r (gm r i.toNat zF) (fP v) (fP {v with fl:=jK v.fl i.toNat none,lv:=dI v.lv i,ks:=ks',n:=n'}) hi8 (λq e=>fN _ _ e) (λq e=>xH v i.toNat none _ _ _ e) (tk:=by rw[hsn,da];infer_instance);have hq2:Rq {v with fl:=jK v.fl i.toNat none,lv:=dI v.lv i,ks:=ks',n:=n'} (gm r i.toNat zF) (pM t i.toNat false):=⟨λq hq8=>by
    show _=(jK v.fl i.toNat none q).isSome;by_cases e:q=i.toNat
    ·rw[e,wA,co];rfl
    ·rw[DY _ _ e,ec _ _ e];exact hq.t q hq8,λq hq8=>by
    by_cases e:q=i.toNat
    ·rw[e,da];unfold yo;rw[show({v with fl:=jK v.fl i.toNat none,lv:=dI v.lv i,ks:=ks',n:=n'}:Qm).fl i.toNat=none from co _ _ _]
    ·rw[fN _ _ e];have:=hq.r q hq8;unfold yo at this⊢;rw[show({v with fl:=jK v.fl i.toNat none,lv:=dI v.lv i,ks:=ks',n:=n'}:Qm).fl q=v.fl q from ec _ _ e];rw[kv (u:={v with fl:=jK v.fl i.toNat none,lv:=dI v.lv i,ks:=ks',n:=n'}) (v:=v) (ec _ _ e) (xq v.lv (by omega))];exact this⟩
   have h:=h.gk b X {v with fl:=jK v.fl i.toNat none,lv:=dI v.lv i,ks:=ks',n:=n'} (gm r i.toNat zF) (pM t i.toNat false) hq2;exact h.aK
  ·have none_:∀{w:World},cz v i=([],v)→au w0 S R w (cN b X v)→au w0 S R w (aQ ⟨none,0,0⟩ KS (cz v i).1^cN b X (cz v i).2):=λ{w} e h=>by
    rw[e];exact((h.le (aG _)).nil KS).aK
   refine ae (λc=>?_) λc=>?_
   ·have c:i<0∨i≥8:=cS;refine none_ ?_ h;unfold cz;rw[aF (by omega)]
   ·have c:¬(i<0∨i≥8):=cS;have hi8:i.toNat<8:=(by omega);obtain⟨r,t,hq,h⟩:=(h.le (aG _)).cN b X v;obtain⟨s1,s2,h⟩:=h.kq b X (eA X v.c r t) v.lv;refine ac ⟨by omega,aj h (I1 X v.c r t s1 s2 hi8) ?_⟩;have ht:=hq.t i.toNat hi8;have h:=h.dT b X (eA X v.c r t) s1 s2 v.lv;have h:=h.gk b X v r t hq;refine ae (λc2=>?_) λc2=>?_
    ·have c2:t i.toNat=false:=gJ;refine none_ ?_ h.aK;unfold cz;rw[aw (by omega)];cases hf:v.fl i.toNat with
     |none=>rfl
     |some f=>rw[ht,hf]at c2;cases c2
    ·have c2:t i.toNat=true:=gJ;refine⟨⟨by omega,?_⟩,h.aK⟩;cases hf:v.fl i.toNat with
     |none=>rw[ht,hf]at c2;cases c2
     |some f=>exact⟨f,rfl⟩
end Ss

end Go.X
