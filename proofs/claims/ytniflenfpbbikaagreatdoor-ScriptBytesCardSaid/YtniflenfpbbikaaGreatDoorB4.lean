/- Contracts. -/
import Derived.Test.YtniflenfpbbikaaGreatDoorB3
set_option linter.all false
set_option autoImplicit true
set_option relaxedAutoImplicit true
namespace Go.X
open IntKind (u64 i64)
open Go.Proofs
namespace Xj
open bK bp _root_.Go.X.Target gT fQ Ll Lm Pz Li Lj
section
variable (b n1 n2 n3 n4 n5 n6:Nat) (m:Md) (hm:gp m) (s:Sm) (hs:mN s) (o:Bool)
include hm hs
theorem Ni:bx (Vf (some ⟨b,0⟩) s) (ah b (ad.ii n1 n2 n3 n4 n5 n6 m)^ah n1 (ad.gy m.w)^ah n2 (ad.jM m.r)^ah n3 (ad.jG m.p)^ah n4 (ad.ja m.c)^ah n5 (ad.jo m.b)^ah n6 (ad.gx m.q)) (λ_=>ah b (ad.ii n1 n2 n3 n4 n5 n6 ((ff m s)))^ah n1 (ad.gy ((ff m s).w))^ah n2 (ad.jM ((ff m s).r))^ah n3 (ad.jG ((ff m s).p))^ah n4 (ad.ja ((ff m s).c))^ah n5 (ad.jo ((ff m s).b))^ah n6 (ad.gx ((ff m s).q))):=
 bF λw0 S R h=>by
  refine aD h λx w h=>?_;have h:au w0 S R w ((ah b (ad.ii n1 n2 n3 n4 n5 n6 m)^ah n1 (ad.gy m.w)^ah n2 (ad.jM m.r)^ah n3 (ad.jG m.p)^ah n4 (ad.ja m.c)^ah n5 (ad.jo m.b)^ah n6 (ad.gx m.q))^ah x (Ks.mk aW s)):=h.aK;refine aS h (λ_=>(ah b (ad.ii n1 n2 n3 n4 n5 n6 m)^ah n1 (ad.gy m.w)^ah n2 (ad.jM m.r)^ah n3 (ad.jG m.p)^ah n4 (ad.ja m.c)^ah n5 (ad.jo m.b)^ah n6 (ad.gx m.q))^ah x (Ks.mk aW s)) (λ_=>¬(fD s=0∨AH s=0)) (λ_ w c h=>?_) ?_
  ·repeat' (first
    |(refine aM h λw h=>?_)
    |(refine ac ?_)
    |(refine ay h rfl ?_)
    |(refine aj h rfl ?_)
    |(refine aO h ?_)
    |(refine aN h rfl ?_)
    |(refine aA h (by rfl) λw h=>?_)
    |(refine aD h λn w h=>?_)
    |(refine aV h λw h=>?_)
    |(refine be h rfl λw h=>?_;dsimp only[dE,over]at h)
    |(refine aq (jk (gK s) (FO s) hs.del hs.pri) h λr w h=>?_;obtain⟨hr,h⟩:=h.aP;(try dsimp only at hr h);try rw[hr])
    |(refine aq (uD (dV (gK s) (FO s)) 1000000000 (AH s) (nA hs.del hs.pri) (bh _) hs.Xh) h λr w h=>?_;obtain⟨hr,h⟩:=h.aP;(try dsimp only at hr h);try rw[hr]))
   have hU:U (mK s):=yR (nA hs.del hs.pri) (bh _) hs.Xh;refine aS h (λ_=>(ah b (ad.ii n1 n2 n3 n4 n5 n6 m)^ah n1 (ad.gy m.w)^ah n2 (ad.jM m.r)^ah n3 (ad.jG m.p)^ah n4 (ad.ja m.c)^ah n5 (ad.jo m.b)^ah n6 (ad.gx m.q))^ah x (Ks.mk aW s)) (λy:Bool=>y=decide (rz s=false∨mK s≥m.w.v0)) (λ(y:Bool) w hy h=>?_) ?_
   ·rw[hy];refine ae (λc2=>?_) λc2=>?_
    ·have c2:rz s=false∨mK s≥m.w.v0:=gJ;have e:ff m s={m with w:=AV m.w m.r.n (mK s)}:=(by unfold ff;rw[aw c,aF c2]);rw[e];repeat' (first
      |(refine aM h λw h=>?_)
      |(refine ac ?_)
      |(refine ay h rfl ?_)
      |(refine aj h rfl ?_)
      |(refine aO h ?_)
      |(refine aN h rfl ?_)
      |(refine aA h (by rfl) λw h=>?_)
      |(refine aD h λn w h=>?_)
      |(refine aV h λw h=>?_)
      |(refine be h rfl λw h=>?_;dsimp only[dE,over]at h)
      |(refine aq (BD n2 m.r) h λr w h=>?_;obtain⟨hr,h⟩:=h.aP;(try dsimp only at hr h);try rw[hr])
      |(refine aq (GR n1 m.w hm.w m.r.n (mK s) hm.r.n hU) h λr w h=>?_;obtain⟨hr,h⟩:=h.aP;(try dsimp only at hr h);try rw[hr]))
     exact h.aK
    ·have c2:¬(rz s=false∨mK s≥m.w.v0):=gJ;have e:ff m s=m:=(by unfold ff;rw[aw c,aw c2]);rw[e];exact h.aK
   ·repeat' (first
     |(refine aM h λw h=>?_)
     |(refine ac ?_)
     |(refine ay h rfl ?_)
     |(refine aj h rfl ?_)
     |(refine aO h ?_)
     |(refine aN h rfl ?_)
     |(refine aA h (by rfl) λw h=>?_)
     |(refine aD h λn w h=>?_)
     |(refine aV h λw h=>?_)
     |(refine be h rfl λw h=>?_;dsimp only[dE,over]at h))
    refine ae (λc2=>?_) λc2=>?_
    ·have c2:rz s=false:=gJ;exact⟨by simp[c2],h.aK⟩
    ·have c2:rz s=true:=gJ;repeat' (first
      |(refine aM h λw h=>?_)
      |(refine ac ?_)
      |(refine ay h rfl ?_)
      |(refine aj h rfl ?_)
      |(refine aO h ?_)
      |(refine aN h rfl ?_)
      |(refine aA h (by rfl) λw h=>?_)
      |(refine aD h λn w h=>?_)
      |(refine aV h λw h=>?_)
      |(refine be h rfl λw h=>?_;dsimp only[dE,over]at h)
      |(refine aq (yZ n1 m.w) h λr w h=>?_;obtain⟨hr,h⟩:=h.aP;(try dsimp only at hr h);try rw[hr]))
     exact⟨by rw[jH];simp[c2,mK],h.aK⟩
  ·repeat' (first
    |(refine aM h λw h=>?_)
    |(refine ac ?_)
    |(refine ay h rfl ?_)
    |(refine aj h rfl ?_)
    |(refine aO h ?_)
    |(refine aN h rfl ?_)
    |(refine aA h (by rfl) λw h=>?_)
    |(refine aD h λn w h=>?_)
    |(refine aV h λw h=>?_)
    |(refine be h rfl λw h=>?_;dsimp only[dE,over]at h))
   refine ae (λc=>?_) λc=>?_
   ·have c:fD s=0:=cS;have e:ff m s=m:=(by unfold ff;rw[aF (.inl c)]);rw[e];exact h.aK
   repeat' (first
    |(refine aM h λw h=>?_)
    |(refine ac ?_)
    |(refine ay h rfl ?_)
    |(refine aj h rfl ?_)
    |(refine aO h ?_)
    |(refine aN h rfl ?_)
    |(refine aA h (by rfl) λw h=>?_)
    |(refine aD h λn w h=>?_)
    |(refine aV h λw h=>?_)
    |(refine be h rfl λw h=>?_;dsimp only[dE,over]at h))
   have c:¬fD s=0:=cS;refine ae (λc2=>?_) λc2=>?_
   ·have c2:AH s=0:=gJ;have e:ff m s=m:=(by unfold ff;rw[aF (.inr c2)]);rw[e];exact h.aK
   ·have c2:¬AH s=0:=gJ;exact⟨λhh=>hh.elim c c2,h.aK⟩
theorem Kh:bx (Vi (some ⟨b,0⟩) s) (ah b (ad.ii n1 n2 n3 n4 n5 n6 m)^ah n1 (ad.gy m.w)^ah n2 (ad.jM m.r)^ah n3 (ad.jG m.p)^ah n4 (ad.ja m.c)^ah n5 (ad.jo m.b)^ah n6 (ad.gx m.q)) (λ_=>ah b (ad.ii n1 n2 n3 n4 n5 n6 ((tc (ru m) s)))^ah n1 (ad.gy ((tc (ru m) s).w))^ah n2 (ad.jM ((tc (ru m) s).r))^ah n3 (ad.jG ((tc (ru m) s).p))^ah n4 (ad.ja ((tc (ru m) s).c))^ah n5 (ad.jo ((tc (ru m) s).b))^ah n6 (ad.gx ((tc (ru m) s).q))):=
 bF λw0 S R h=>by
  refine aD h λx w h=>?_;have h:au w0 S R w ((ah b (ad.ii n1 n2 n3 n4 n5 n6 m)^ah n1 (ad.gy m.w)^ah n2 (ad.jM m.r)^ah n3 (ad.jG m.p)^ah n4 (ad.ja m.c)^ah n5 (ad.jo m.b)^ah n6 (ad.gx m.q))^ah x (Ks.mk aW s)):=h.aK;refine fV (λ(_:Unit) (u:Md)=>(ah b (ad.ii n1 n2 n3 n4 n5 n6 u)^ah n1 (ad.gy u.w)^ah n2 (ad.jM u.r)^ah n3 (ad.jG u.p)^ah n4 (ad.ja u.c)^ah n5 (ad.jo u.b)^ah n6 (ad.gx u.q))^ah x (Ks.mk aW s)) (λ_ u=>(gp u∧ru u=ru m)) (λ_ u=>if u.mode=0 then 1 else 0) m h ⟨hm,rfl⟩ ?_;rintro K _ u w ⟨hu,heq⟩ h hK;rw[←heq];refine aS h (λ_=>(ah b (ad.ii n1 n2 n3 n4 n5 n6 u)^ah n1 (ad.gy u.w)^ah n2 (ad.jM u.r)^ah n3 (ad.jG u.p)^ah n4 (ad.ja u.c)^ah n5 (ad.jo u.b)^ah n6 (ad.gx u.q))^ah x (Ks.mk aW s)) (λy:Bool=>y=decide (u.mode=0∧u.p.full=true)) (λ(y:Bool) w hy h=>?_) ?_
  ·rw[hy];refine ae (λc=>?_) λc=>?_
   ·have c:u.mode=0∧u.p.full=true:=cS;refine ac (aB h b (ad.ii n1 n2 n3 n4 n5 n6 ({u with mode:=1})) rfl rfl rfl λw h=>?_);refine hK () {u with mode:=1} w ⟨{hu with mode:=by simp},?_⟩ h.aK ?_
    ·rw[←heq];have e1:ru u={u with mode:=1}:=by unfold ru;rw[aF c]
     rw[e1];unfold ru;rw[aw (by simp)]
    ·rw[aF c.1,aw (by simp)];omega
   have c:¬(u.mode=0∧u.p.full=true):=cS;have e1:ru u=u:=(by unfold ru;rw[aw c]);rw[e1];refine aS h (λ_=>(ah b (ad.ii n1 n2 n3 n4 n5 n6 u)^ah n1 (ad.gy u.w)^ah n2 (ad.jM u.r)^ah n3 (ad.jG u.p)^ah n4 (ad.ja u.c)^ah n5 (ad.jo u.b)^ah n6 (ad.gx u.q))^ah x (Ks.mk aW s)) (λy:Bool=>y=decide (u.mode=1∧u.b.dz>0∧kP s≤sk u 256)) (λ(y:Bool) w hy h=>?_) ?_
   ·rw[hy];refine ae (λc2=>?_) λc2=>?_
    ·have c2:u.mode=1∧u.b.dz>0∧kP s≤sk u 256:=gJ;have e:tc u s=eU u (i_ s):=(by unfold tc;rw[aF c2]);rw[e];refine aj h rfl ?_;refine aq (zb b n1 n2 n3 n4 n5 n6 u (i_ s)) h λ_ w h=>?_;exact h.aK
    ·have c2:¬(u.mode=1∧u.b.dz>0∧kP s≤sk u 256):=gJ;have e:tc u s=u:=(by unfold tc;rw[aw c2]);rw[e];exact h.aK
   ·repeat' (first
     |(refine aM h λw h=>?_)
     |(refine ac ?_)
     |(refine ay h rfl ?_)
     |(refine aj h rfl ?_)
     |(refine aO h ?_)
     |(refine aN h rfl ?_)
     |(refine aA h (by rfl) λw h=>?_)
     |(refine aD h λn w h=>?_)
     |(refine aV h λw h=>?_)
     |(refine be h rfl λw h=>?_;dsimp only[dE,over]at h))
    refine ae (λc2=>?_) λc2=>?_
    ·have c2:u.mode=1:=gJ;repeat' (first
      |(refine aM h λw h=>?_)
      |(refine ac ?_)
      |(refine ay h rfl ?_)
      |(refine aj h rfl ?_)
      |(refine aO h ?_)
      |(refine aN h rfl ?_)
      |(refine aA h (by rfl) λw h=>?_)
      |(refine aD h λn w h=>?_)
      |(refine aV h λw h=>?_)
      |(refine be h rfl λw h=>?_;dsimp only[dE,over]at h)
      |(refine aq (p_ n5 u.b) h λr w h=>?_;obtain⟨hr,h⟩:=h.aP;(try dsimp only at hr h);try rw[hr]))
     refine ae (λc3=>?_) λc3=>?_
     ·have c3:u.b.dz>0:=(by simpa using c3);repeat' (first
       |(refine aM h λw h=>?_)
       |(refine ac ?_)
       |(refine ay h rfl ?_)
       |(refine aj h rfl ?_)
       |(refine aO h ?_)
       |(refine aN h rfl ?_)
       |(refine aA h (by rfl) λw h=>?_)
       |(refine aD h λn w h=>?_)
       |(refine aV h λw h=>?_)
       |(refine be h rfl λw h=>?_;dsimp only[dE,over]at h)
       |(refine aq (yY b n1 n2 n3 n4 n5 n6 u hu 256 (bh _)) h λr w h=>?_;obtain⟨hr,h⟩:=h.aP;(try dsimp only at hr h);try rw[hr]))
      exact⟨by rw[jH];simp[c2,c3],h.aK⟩
     ·have c3:¬u.b.dz>0:=(by simpa using c3);exact⟨by simp[c3],h.aK⟩
    ·have c2:¬u.mode=1:=gJ;exact⟨by simp[c2],h.aK⟩
  ·repeat' (first
    |(refine aM h λw h=>?_)
    |(refine ac ?_)
    |(refine ay h rfl ?_)
    |(refine aj h rfl ?_)
    |(refine aO h ?_)
    |(refine aN h rfl ?_)
    |(refine aA h (by rfl) λw h=>?_)
    |(refine aD h λn w h=>?_)
    |(refine aV h λw h=>?_)
    |(refine be h rfl λw h=>?_;dsimp only[dE,over]at h))
   refine ae (λc=>?_) λc=>?_
   ·have c:u.mode=0:=cS;repeat' (first
     |(refine aM h λw h=>?_)
     |(refine ac ?_)
     |(refine ay h rfl ?_)
     |(refine aj h rfl ?_)
     |(refine aO h ?_)
     |(refine aN h rfl ?_)
     |(refine aA h (by rfl) λw h=>?_)
     |(refine aD h λn w h=>?_)
     |(refine aV h λw h=>?_)
     |(refine be h rfl λw h=>?_;dsimp only[dE,over]at h)
     |(refine aq (qf n3 u.p) h λr w h=>?_;obtain⟨hr,h⟩:=h.aP;(try dsimp only at hr h);try rw[hr]))
    exact⟨by rw[jH];simp[c],h.aK⟩
   ·have c:¬u.mode=0:=cS;exact⟨by simp[c],h.aK⟩
theorem Na:bx (Vj (some ⟨b,0⟩) s o) (ah b (ad.ii n1 n2 n3 n4 n5 n6 m)^ah n1 (ad.gy m.w)^ah n2 (ad.jM m.r)^ah n3 (ad.jG m.p)^ah n4 (ad.ja m.c)^ah n5 (ad.jo m.b)^ah n6 (ad.gx m.q)) (λ_=>ah b (ad.ii n1 n2 n3 n4 n5 n6 ((mr m s o)))^ah n1 (ad.gy ((mr m s o).w))^ah n2 (ad.jM ((mr m s o).r))^ah n3 (ad.jG ((mr m s o).p))^ah n4 (ad.ja ((mr m s o).c))^ah n5 (ad.jo ((mr m s o).b))^ah n6 (ad.gx ((mr m s o).q))):=
 bF λw0 S R h=>by
  refine aD h λx w h=>?_;have h:au w0 S R w ((ah b (ad.ii n1 n2 n3 n4 n5 n6 m)^ah n1 (ad.gy m.w)^ah n2 (ad.jM m.r)^ah n3 (ad.jG m.p)^ah n4 (ad.ja m.c)^ah n5 (ad.jo m.b)^ah n6 (ad.gx m.q))^ah x (Ks.mk aW s)):=h.aK;repeat' (first
   |(refine aM h λw h=>?_)
   |(refine ac ?_)
   |(refine ay h rfl ?_)
   |(refine aj h rfl ?_)
   |(refine aO h ?_)
   |(refine aN h rfl ?_)
   |(refine aA h (by rfl) λw h=>?_)
   |(refine aD h λn w h=>?_)
   |(refine aV h λw h=>?_)
   |(refine be h rfl λw h=>?_;dsimp only[dE,over]at h)
   |(refine aq (xf b n1 n2 n3 n4 n5 n6 m hm) h λr w h=>?_;obtain⟨hr,h⟩:=h.aP;(try dsimp only at hr h);try rw[hr])
   |(refine aq (LO n5 m.b hm.b (i_ s) (OI s) (kP s) (jA m) o hs.af hs.bX) h λr w h=>?_;obtain⟨hr,h⟩:=h.aP;(try dsimp only at hr h);try rw[hr]))
  have e:mr m s o=iJ {m with b:=(A7 m s o).2} (A7 m s o).1 (i_ s):=rfl;rw[e];have h:au w0 S R w ((ah b (ad.ii n1 n2 n3 n4 n5 n6 (({m with b:=(A7 m s o).2})))^ah n1 (ad.gy (({m with b:=(A7 m s o).2}).w))^ah n2 (ad.jM (({m with b:=(A7 m s o).2}).r))^ah n3 (ad.jG (({m with b:=(A7 m s o).2}).p))^ah n4 (ad.ja (({m with b:=(A7 m s o).2}).c))^ah n5 (ad.jo (({m with b:=(A7 m s o).2}).b))^ah n6 (ad.gx (({m with b:=(A7 m s o).2}).q)))^ah x (Ks.mk aW s)):=h.aK;change ar (A7 m s o).1.1 _ (ar (A7 m s o).1.2 _ _) w;generalize(A7 m s o).1=r at*
  generalize{m with b:=(A7 m s o).2}=u at*
  refine ae (λc=>?_) λc=>?_
  ·have c:r.1=true:=c;have e:iJ u r (i_ s)={u with gM:=if u.cO>u.gM then u.cO else u.gM,mode:=3}:=(by unfold iJ;rw[aF c]);rw[e];refine aM h λw h=>ac (ac (aj h rfl (aj h rfl (ac ?_))));refine aB h b (ad.ii n1 n2 n3 n4 n5 n6 ({u with gM:=if u.cO>u.gM then u.cO else u.gM})) rfl rfl rfl λw h=>?_;refine ac (aB h b (ad.ii n1 n2 n3 n4 n5 n6 ({u with gM:=if u.cO>u.gM then u.cO else u.gM,mode:=3})) rfl rfl rfl λw h=>?_);exact h.aK
  have c:r.1=false:=c;refine ae (λc2=>?_) λc2=>?_
  ·have c2:r.2=true:=c2;have e:iJ u r (i_ s)=if u.p.full then eU {gr u with mode:=0} (i_ s)else{gr u with mode:=0}:=by unfold iJ;rw[aw (by rw[c];simp),aF c2]
   rw[e];refine aq (rQ b n1 n2 n3 n4 n5 n6 u) h λ_ w h=>?_;refine ac (aB h b (ad.ii n1 n2 n3 n4 n5 n6 ({gr u with mode:=0})) rfl rfl rfl λw h=>?_);refine ac (aj h rfl ?_);refine aI (qf n3 u.p) h λw h=>?_;refine ae (λc3=>?_) λc3=>?_
   ·have c3:u.p.full=true:=c3;rw[aF c3];refine aj h rfl ?_;refine aq (zb b n1 n2 n3 n4 n5 n6 {gr u with mode:=0} (i_ s)) h λ_ w h=>?_;exact h.aK
   ·have c3:u.p.full=false:=c3;rw[aw (by rw[c3];simp)];exact h.aK
  ·have c2:r.2=false:=c2;have e:iJ u r (i_ s)=u:=(by unfold iJ;rw[aw (by rw[c];simp),aw (by rw[c2];simp)]);rw[e];exact h.aK
theorem RL:bx (Vl (some ⟨b,0⟩) s o) (ah b (ad.ii n1 n2 n3 n4 n5 n6 m)^ah n1 (ad.gy m.w)^ah n2 (ad.jM m.r)^ah n3 (ad.jG m.p)^ah n4 (ad.ja m.c)^ah n5 (ad.jo m.b)^ah n6 (ad.gx m.q)) (λ_=>ah b (ad.ii n1 n2 n3 n4 n5 n6 ((bt m s o)))^ah n1 (ad.gy ((bt m s o).w))^ah n2 (ad.jM ((bt m s o).r))^ah n3 (ad.jG ((bt m s o).p))^ah n4 (ad.ja ((bt m s o).c))^ah n5 (ad.jo ((bt m s o).b))^ah n6 (ad.gx ((bt m s o).q))):=
 bF λw0 S R h=>by
  refine aD h λx w h=>?_;have h:au w0 S R w ((ah b (ad.ii n1 n2 n3 n4 n5 n6 m)^ah n1 (ad.gy m.w)^ah n2 (ad.jM m.r)^ah n3 (ad.jG m.p)^ah n4 (ad.ja m.c)^ah n5 (ad.jo m.b)^ah n6 (ad.gx m.q))^ah x (Ks.mk aW s)):=h.aK;refine aS h (λ_=>(ah b (ad.ii n1 n2 n3 n4 n5 n6 m)^ah n1 (ad.gy m.w)^ah n2 (ad.jM m.r)^ah n3 (ad.jG m.p)^ah n4 (ad.ja m.c)^ah n5 (ad.jo m.b)^ah n6 (ad.gx m.q))^ah x (Ks.mk aW s)) (λy:Bool=>y=decide (gP s>0∧m.ml=false)) (λ(y:Bool) w hy h=>?_) ?_
  ·rw[hy];refine ae (λc=>?_) λc=>?_
   ·have c:gP s>0∧m.ml=false:=cS;have e:bt m s o={m with ml:=true,first:=true,ki:=bH (gK s) (kP s),gM:=if m.cO>m.gM then m.cO else m.gM}:=(by unfold bt;rw[aF c]);rw[e];refine aj h rfl (aj h rfl ?_);refine aq (e_ (gK s) (kP s) hs.del hs.W8) (h.le ((aU _ _).trans (ba Le.rfl (aG _)))) λr w h=>?_;obtain⟨hr,h⟩:=h.aP;rw[hr];refine ac (aB h b (ad.ii n1 n2 n3 n4 n5 n6 ({m with ml:=true})) rfl rfl rfl λw h=>?_);refine ac (aB h b (ad.ii n1 n2 n3 n4 n5 n6 ({m with ml:=true,first:=true})) rfl rfl rfl λw h=>?_);refine ac (aB h b (ad.ii n1 n2 n3 n4 n5 n6 ({m with ml:=true,first:=true,ki:=bH (gK s) (kP s)})) rfl rfl rfl λw h=>?_);refine aM h λw h=>ac (ac (aj h rfl (aj h rfl (ac ?_))));refine aB h b (ad.ii n1 n2 n3 n4 n5 n6 ({m with ml:=true,first:=true,ki:=bH (gK s) (kP s),gM:=if m.cO>m.gM then m.cO else m.gM})) rfl rfl rfl λw h=>?_;exact h.aK
   have c:¬(gP s>0∧m.ml=false):=cS;refine ac (aj h rfl ?_);refine ae (λc2=>?_) λc2=>?_
   ·have c2:m.ml=true:=c2;have e:bt m s o=if gK s<m.ki then{m with first:=m.first&&!o}else kz {m with first:=m.first&&!o}:=by unfold bt;rw[aw c,aF c2]
    rw[e];refine ac (aj h rfl (ac ?_));refine aB h b (ad.ii n1 n2 n3 n4 n5 n6 ({m with first:=m.first&&!o})) rfl rfl rfl λw h=>?_;refine aM h λw h=>aj h rfl (ac (aj h rfl ?_));refine ae (λc3=>?_) λc3=>?_
    ·have c3:gK s<m.ki:=(by simpa using c3);rw[aF c3];exact h.aK
    have c3:¬gK s<m.ki:=(by simpa using c3);rw[aw c3];have h:au w0 S R w ((ah b (ad.ii n1 n2 n3 n4 n5 n6 (({m with first:=m.first&&!o})))^ah n1 (ad.gy (({m with first:=m.first&&!o}).w))^ah n2 (ad.jM (({m with first:=m.first&&!o}).r))^ah n3 (ad.jG (({m with first:=m.first&&!o}).p))^ah n4 (ad.ja (({m with first:=m.first&&!o}).c))^ah n5 (ad.jo (({m with first:=m.first&&!o}).b))^ah n6 (ad.gx (({m with first:=m.first&&!o}).q)))^ah x (Ks.mk aW s)):=h.aK;generalize{m with first:=m.first&&!o}=u at*
    refine ac (aB h b (ad.ii n1 n2 n3 n4 n5 n6 ({u with ml:=false})) rfl rfl rfl λw h=>?_);refine ac (aB h b (ad.ii n1 n2 n3 n4 n5 n6 ({u with ml:=false,first:=false})) rfl rfl rfl λw h=>?_);refine ac (aj h rfl ?_);refine ae (λc4=>?_) λc4=>?_
    ·have c4:u.mode≠3:=(by simpa using c4);have e:kz u=gr {u with ml:=false,first:=false}:=(by unfold kz;rw[aF c4]);rw[e];refine aq (rQ b n1 n2 n3 n4 n5 n6 {u with ml:=false,first:=false}) h λ_ w h=>?_;exact h.aK
    ·have c4:¬u.mode≠3:=(by simpa using c4);have e:kz u={u with ml:=false,first:=false}:=(by unfold kz;rw[aw c4]);rw[e];exact h.aK
   ·have c2:m.ml=false:=c2;have e:bt m s o=m:=(by unfold bt;rw[aw c,aw (by rw[c2];simp)]);rw[e];exact h.aK
  ·refine aj h rfl ?_;refine ae (λc=>?_) λc=>?_
   ·have c:gP s>0:=cS;refine ac (aj h rfl ?_);exact⟨by rw[jH];simp[c],h⟩
   ·have c:¬gP s>0:=cS;exact⟨by simp[c],h⟩
omit hs in
theorem zP:bx (Vk (some ⟨b,0⟩)) (ah b (ad.ii n1 n2 n3 n4 n5 n6 m)^ah n1 (ad.gy m.w)^ah n2 (ad.jM m.r)^ah n3 (ad.jG m.p)^ah n4 (ad.ja m.c)^ah n5 (ad.jo m.b)^ah n6 (ad.gx m.q)) (λ_=>ah b (ad.ii n1 n2 n3 n4 n5 n6 ((dO m)))^ah n1 (ad.gy ((dO m).w))^ah n2 (ad.jM ((dO m).r))^ah n3 (ad.jG ((dO m).p))^ah n4 (ad.ja ((dO m).c))^ah n5 (ad.jo ((dO m).b))^ah n6 (ad.gx ((dO m).q))):=
 bF λw0 S R h=>by
  have h:au w0 S R w0 ((ah b (ad.ii n1 n2 n3 n4 n5 n6 m)^ah n1 (ad.gy m.w)^ah n2 (ad.jM m.r)^ah n3 (ad.jG m.p)^ah n4 (ad.ja m.c)^ah n5 (ad.jo m.b)^ah n6 (ad.gx m.q))^bg):=h.le (aG _);repeat' (first
   |(refine aM h λw h=>?_)
   |(refine ac ?_)
   |(refine ay h rfl ?_)
   |(refine aj h rfl ?_)
   |(refine aO h ?_)
   |(refine aN h rfl ?_)
   |(refine aA h (by rfl) λw h=>?_)
   |(refine aD h λn w h=>?_)
   |(refine aV h λw h=>?_)
   |(refine be h rfl λw h=>?_;dsimp only[dE,over]at h)
   |(refine aq (y6 b n1 n2 n3 n4 n5 n6 m) h λr w h=>?_;obtain⟨hr,h⟩:=h.aP;(try dsimp only at hr h);try rw[hr]))
  refine ae (λc=>?_) λc=>?_
  ·have c:zC m=0:=cS;have e:dO m=m:=(by unfold dO;rw[aF c]);rw[e];exact h.aK
  have c:¬zC m=0:=cS;repeat' (first
   |(refine aM h λw h=>?_)
   |(refine ac ?_)
   |(refine ay h rfl ?_)
   |(refine aj h rfl ?_)
   |(refine aO h ?_)
   |(refine aN h rfl ?_)
   |(refine aA h (by rfl) λw h=>?_)
   |(refine aD h λn w h=>?_)
   |(refine aV h λw h=>?_)
   |(refine be h rfl λw h=>?_;dsimp only[dE,over]at h)
   |(refine aq (y6 b n1 n2 n3 n4 n5 n6 m) h λr w h=>?_;obtain⟨hr,h⟩:=h.aP;(try dsimp only at hr h);try rw[hr])
   |(refine aq (BJ b n1 n2 n3 n4 n5 n6 m) h λr w h=>?_;obtain⟨hr,h⟩:=h.aP;(try dsimp only at hr h);try rw[hr])
   |(refine aq (v7 (zC m) (fE m) hm.bw (Gb m)) h λr w h=>?_;obtain⟨hr,h⟩:=h.aP;(try dsimp only at hr h);try rw[hr]))
  have e:dO m=if m.p.full=true∨Kd m>m.aY then{m with aY:=Kd m}else m:=by unfold dO;rw[aw c]
  rw[e];have h:au w0 S R _ (ah b (ad.ii n1 n2 n3 n4 n5 n6 m)^ah n1 (ad.gy m.w)^ah n2 (ad.jM m.r)^ah n3 (ad.jG m.p)^ah n4 (ad.ja m.c)^ah n5 (ad.jo m.b)^ah n6 (ad.gx m.q)):=h.aK;refine aS h (λ_=>ah b (ad.ii n1 n2 n3 n4 n5 n6 m)^ah n1 (ad.gy m.w)^ah n2 (ad.jM m.r)^ah n3 (ad.jG m.p)^ah n4 (ad.ja m.c)^ah n5 (ad.jo m.b)^ah n6 (ad.gx m.q)) (λy:Bool=>y=decide (m.p.full=true∨Kd m>m.aY)) (λ(y:Bool) w hy h=>?_) ?_
  ·rw[hy];refine ae (λc2=>?_) λc2=>?_
   ·have c2:m.p.full=true∨Kd m>m.aY:=gJ;rw[aF c2];refine ac (aB h b (ad.ii n1 n2 n3 n4 n5 n6 ({m with aY:=Kd m})) rfl rfl rfl λw h=>?_);exact h.aK
   ·have c2:¬(m.p.full=true∨Kd m>m.aY):=gJ;rw[aw c2];exact h.aK
  ·repeat' (first
    |(refine aM h λw h=>?_)
    |(refine ac ?_)
    |(refine ay h rfl ?_)
    |(refine aj h rfl ?_)
    |(refine aO h ?_)
    |(refine aN h rfl ?_)
    |(refine aA h (by rfl) λw h=>?_)
    |(refine aD h λn w h=>?_)
    |(refine aV h λw h=>?_)
    |(refine be h rfl λw h=>?_;dsimp only[dE,over]at h)
    |(refine aq (qf n3 m.p) h λr w h=>?_;obtain⟨hr,h⟩:=h.aP;(try dsimp only at hr h);try rw[hr]))
   refine ae (λc2=>?_) λc2=>?_
   ·have c2:m.p.full=true:=c2;exact⟨by simp[c2],h.aK⟩
   ·have c2:m.p.full=false:=c2;repeat' (first
     |(refine aM h λw h=>?_)
     |(refine ac ?_)
     |(refine ay h rfl ?_)
     |(refine aj h rfl ?_)
     |(refine aO h ?_)
     |(refine aN h rfl ?_)
     |(refine aA h (by rfl) λw h=>?_)
     |(refine aD h λn w h=>?_)
     |(refine aV h λw h=>?_)
     |(refine be h rfl λw h=>?_;dsimp only[dE,over]at h))
    exact⟨by rw[jH];simp[c2,Kd],h.aK⟩
end
end Xj

namespace Xk
open bK bp _root_.Go.X.Target gT fQ Ll Lm Pz Li Lj Xj
section
variable (b n1 n2 n3 n4 n5 n6:Nat) (m:Md) (hm:gp m) (s:Sm) (hs:mN s) (tso:Int) (ht:U tso)
include hm hs ht
theorem H6:bx (Vm (some ⟨b,0⟩) s tso) (ah b (ad.ii n1 n2 n3 n4 n5 n6 m)^ah n1 (ad.gy m.w)^ah n2 (ad.jM m.r)^ah n3 (ad.jG m.p)^ah n4 (ad.ja m.c)^ah n5 (ad.jo m.b)^ah n6 (ad.gx m.q)) (λ_=>ah b (ad.ii n1 n2 n3 n4 n5 n6 ((eK m s tso)))^ah n1 (ad.gy ((eK m s tso).w))^ah n2 (ad.jM ((eK m s tso).r))^ah n3 (ad.jG ((eK m s tso).p))^ah n4 (ad.ja ((eK m s tso).c))^ah n5 (ad.jo ((eK m s tso).b))^ah n6 (ad.gx ((eK m s tso).q))):=
 bF λw0 S R h=>by
  refine aD h λx w h=>?_;have h:au w0 S R w ((ah b (ad.ii n1 n2 n3 n4 n5 n6 m)^ah n1 (ad.gy m.w)^ah n2 (ad.jM m.r)^ah n3 (ad.jG m.p)^ah n4 (ad.ja m.c)^ah n5 (ad.jo m.b)^ah n6 (ad.gx m.q))^ah x (Ks.mk aW s)^bg):=h.aK;refine aM h λw h=>ac (aj h rfl (ac (aj h rfl (aj h rfl ?_))));refine aI (jk m.cO (gP s) hm.cO hs.bn) h λw h=>?_;refine aN h rfl ?_;refine ac (aB h b (ad.ii n1 n2 n3 n4 n5 n6 ((ym m s))) rfl rfl rfl λw h=>?_);have e:eK m s tso=Ke (D5 (tM (ym m s) s tso)):=rfl;rw[e];have h:au w0 S R w ((ah b (ad.ii n1 n2 n3 n4 n5 n6 ((ym m s)))^ah n1 (ad.gy ((ym m s).w))^ah n2 (ad.jM ((ym m s).r))^ah n3 (ad.jG ((ym m s).p))^ah n4 (ad.ja ((ym m s).c))^ah n5 (ad.jo ((ym m s).b))^ah n6 (ad.gx ((ym m s).q)))^ah x (Ks.mk aW s)):=h.aK;have hu:=hm.w1 hs;generalize ym m s=u at*
  refine aS h (λ_=>(ah b (ad.ii n1 n2 n3 n4 n5 n6 ((tM u s tso)))^ah n1 (ad.gy ((tM u s tso).w))^ah n2 (ad.jM ((tM u s tso).r))^ah n3 (ad.jG ((tM u s tso).p))^ah n4 (ad.ja ((tM u s tso).c))^ah n5 (ad.jo ((tM u s tso).b))^ah n6 (ad.gx ((tM u s tso).q)))^ah x (Ks.mk aW s)) (λ_=>True) (λ_ w _ h=>?_) ?_
  ·have hv:=hu.w2 hs ht;generalize tM u s tso=v at*
   refine aM h λw h=>ac (aj h rfl ?_);refine aI (xf b n1 n2 n3 n4 n5 n6 v hv) h λw h=>?_;refine aN h rfl ?_;refine ac (aB h b (ad.ii n1 n2 n3 n4 n5 n6 ((D5 v))) rfl rfl rfl λw h=>?_);refine ac (aj h rfl ?_);have h:au w0 S R w ((ah b (ad.ii n1 n2 n3 n4 n5 n6 ((D5 v)))^ah n1 (ad.gy ((D5 v).w))^ah n2 (ad.jM ((D5 v).r))^ah n3 (ad.jG ((D5 v).p))^ah n4 (ad.ja ((D5 v).c))^ah n5 (ad.jo ((D5 v).b))^ah n6 (ad.gx ((D5 v).q)))^ah x (Ks.mk aW s)):=h.aK;have hy:=hv.w3;generalize D5 v=y at*
   refine ae (λc=>?_) λc=>?_
   ·have c:y.mode=3:=cS;have e:Ke y={y with cO:=jA y}:=(by unfold Ke;rw[aF c]);rw[e];refine aI (xf b n1 n2 n3 n4 n5 n6 y hy) h λw h=>?_;refine ac (aB h b (ad.ii n1 n2 n3 n4 n5 n6 ({y with cO:=jA y})) rfl rfl rfl λw h=>?_);exact h.aK
   ·have c:¬y.mode=3:=cS;have e:Ke y=y:=(by unfold Ke;rw[aw c]);rw[e];exact h.aK
  ·refine ac (aj h rfl ?_);refine ae (λc=>?_) λc=>?_
   ·have c:u.first=true:=c;have e:tM u s tso={u with cO:=if bH (kP s) (fD s)>u.cO then bH (kP s) (fD s)else u.cO}:=(by unfold tM;rw[aF c]);rw[e];refine aM h λw h=>ac (aj h rfl (aj h rfl (aj h rfl ?_)));refine aI (e_ (kP s) (fD s) hs.W8 hs.Ek) (h.le (ba Le.rfl (aG _))) λw h=>?_;refine aN h rfl (ac ?_);refine aB h b (ad.ii n1 n2 n3 n4 n5 n6 ({u with cO:=if bH (kP s) (fD s)>u.cO then bH (kP s) (fD s)else u.cO})) rfl rfl rfl λw h=>?_;exact⟨trivial,h.aK⟩
   have c:¬u.first=true:=(by rw[show u.first=false from c];simp);refine aj h rfl ?_;refine ae (λc2=>?_) λc2=>?_
   ·have c2:fD s>0:=gJ;have e:tM u s tso=if u.p.full then{u with cO:=if oA u tso<bH u.cO (fD s)then oA u tso else bH u.cO (fD s)}
      else if u.cO<oA u tso∨gK s<10*u.bs then{u with cO:=bH u.cO (fD s)}else u:=by unfold tM;rw[aw c,aF c2]
    rw[e];have h:au w0 S R w ((ah b (ad.ii n1 n2 n3 n4 n5 n6 u)^ah n1 (ad.gy u.w)^ah n2 (ad.jM u.r)^ah n3 (ad.jG u.p)^ah n4 (ad.ja u.c)^ah n5 (ad.jo u.b)^ah n6 (ad.gx u.q))^ah x (Ks.mk aW s)^bg):=h.le (ba Le.rfl (aG _));repeat' (first
     |(refine aM h λw h=>?_)
     |(refine ac ?_)
     |(refine ay h rfl ?_)
     |(refine aj h rfl ?_)
     |(refine aO h ?_)
     |(refine aN h rfl ?_)
     |(refine aA h (by rfl) λw h=>?_)
     |(refine aD h λn w h=>?_)
     |(refine aV h λw h=>?_)
     |(refine be h rfl λw h=>?_;dsimp only[dE,over]at h)
     |(refine aq (y6 b n1 n2 n3 n4 n5 n6 u) h λr w h=>?_;obtain⟨hr,h⟩:=h.aP;(try dsimp only at hr h);try rw[hr])
     |(refine aq (p_ n5 u.b) h λr w h=>?_;obtain⟨hr,h⟩:=h.aP;(try dsimp only at hr h);try rw[hr])
     |(refine aq (K6 b n1 n2 n3 n4 n5 n6 u) h λr w h=>?_;obtain⟨hr,h⟩:=h.aP;(try dsimp only at hr h);try rw[hr])
     |(refine aq (Target.Sc (zC u) u.b.dz (jY u) tso u.bs hu.bw hu.b.dz (Gd u) ht hu.Re) h λr w h=>?_;obtain⟨hr,h⟩:=h.aP;(try dsimp only at hr h);try rw[hr])
     |(refine aq (qf n3 u.p) h λr w h=>?_;obtain⟨hr,h⟩:=h.aP;(try dsimp only at hr h);try rw[hr]))
    refine ae (λc3=>?_) λc3=>?_
    ·have c3:u.p.full=true:=c3;rw[aF c3];refine aM h λw h=>ac (aj h rfl (aj h rfl ?_));refine aI (e_ u.cO (fD s) hu.cO hs.Ek) h λw h=>?_;refine ac ?_;refine aB h b (ad.ii n1 n2 n3 n4 n5 n6 ({u with cO:=if oA u tso<bH u.cO (fD s)then oA u tso else bH u.cO (fD s)})) rfl rfl rfl λw h=>?_;exact⟨trivial,h.aK⟩
    have c3:¬u.p.full=true:=(by rw[show u.p.full=false from c3];simp);rw[aw c3];have hms:=hu.bs;have h:au w0 S R _ ((ah b (ad.ii n1 n2 n3 n4 n5 n6 u)^ah n1 (ad.gy u.w)^ah n2 (ad.jM u.r)^ah n3 (ad.jG u.p)^ah n4 (ad.ja u.c)^ah n5 (ad.jo u.b)^ah n6 (ad.gx u.q))^ah x (Ks.mk aW s)^bg):=h.aK;refine aS h (λ_=>(ah b (ad.ii n1 n2 n3 n4 n5 n6 u)^ah n1 (ad.gy u.w)^ah n2 (ad.jM u.r)^ah n3 (ad.jG u.p)^ah n4 (ad.ja u.c)^ah n5 (ad.jo u.b)^ah n6 (ad.gx u.q))^ah x (Ks.mk aW s)^bg) (λy:Bool=>y=decide (u.cO<oA u tso∨gK s<10*u.bs)) (λ(y:Bool) w hy h=>?_) ?_
    ·rw[hy];refine ae (λc4=>?_) λc4=>?_
     ·have c4:u.cO<oA u tso∨gK s<10*u.bs:=(by simpa using c4);rw[aF c4];refine aM h λw h=>ac (aj h rfl (aj h rfl ?_));refine aI (e_ u.cO (fD s) hu.cO hs.Ek) h λw h=>?_;refine ac ?_;refine aB h b (ad.ii n1 n2 n3 n4 n5 n6 ({u with cO:=bH u.cO (fD s)})) rfl rfl rfl λw h=>?_;exact⟨trivial,h.aK⟩
     ·have c4:¬(u.cO<oA u tso∨gK s<10*u.bs):=(by simpa using c4);rw[aw c4];exact⟨trivial,h.aK⟩
    ·refine aM h λw h=>ac (aj h rfl ?_);refine ae (λc4=>?_) λc4=>?_
     ·have c4:u.cO<oA u tso:=bZ c4;exact⟨by simp[c4],h⟩
     ·have c4:¬u.cO<oA u tso:=cd c4;refine aj h rfl (ac (aj h rfl ?_));rw[iy (n:=10*u.bs)];exact⟨by rw[jH];simp[c4],h⟩
   ·have c2:¬fD s>0:=gJ;have e:tM u s tso=u:=(by unfold tM;rw[aw c,aw c2]);rw[e];exact⟨trivial,h⟩
theorem R8:bx (Qe (some ⟨b,0⟩) s tso) (ah b (ad.ii n1 n2 n3 n4 n5 n6 m)^ah n1 (ad.gy m.w)^ah n2 (ad.jM m.r)^ah n3 (ad.jG m.p)^ah n4 (ad.ja m.c)^ah n5 (ad.jo m.b)^ah n6 (ad.gx m.q)) (λr=>br (r=GQ (pC m s tso)) (ah b (ad.ii n1 n2 n3 n4 n5 n6 ((pC m s tso)))^ah n1 (ad.gy ((pC m s tso).w))^ah n2 (ad.jM ((pC m s tso).r))^ah n3 (ad.jG ((pC m s tso).p))^ah n4 (ad.ja ((pC m s tso).c))^ah n5 (ad.jo ((pC m s tso).b))^ah n6 (ad.gx ((pC m s tso).q)))):=
 bF λw0 S R h=>by
  refine aD h λx w h=>?_;refine aD h λy w h=>?_;refine ae (λc=>(by cases c)) λ_=>?_;have h:au w0 S R w ((ah b (ad.ii n1 n2 n3 n4 n5 n6 m)^ah n1 (ad.gy m.w)^ah n2 (ad.jM m.r)^ah n3 (ad.jG m.p)^ah n4 (ad.ja m.c)^ah n5 (ad.jo m.b)^ah n6 (ad.gx m.q))^ah x (Ks.mk aW s)^ah y [aJ 0,aJ 0,aC 0,aC 0,aC 0,aC 0,aC 0,aC 0,a_ false,a_ false]):=h.aK;refine aM h λw h=>ay (x:=s) h rfl (ac (aj h rfl ?_));refine aI (AG n2 m.r s) h λw h=>?_;refine aM h λw h=>ay (x:=s) h rfl (ac (aj h rfl ?_));refine aq (Nf n6 m.q hm.q (rB m.r s) s hs) h λ_ w h=>?_;refine ay (x:=s) h rfl ?_;have e:pC m s tso=Ng (Ra (D4 m s) (rB m.r s) s) (rB m.r s) s tso:=rfl;rw[e];have h:au w0 S R w ((ah b (ad.ii n1 n2 n3 n4 n5 n6 ((D4 m s)))^ah n1 (ad.gy ((D4 m s).w))^ah n2 (ad.jM ((D4 m s).r))^ah n3 (ad.jG ((D4 m s).p))^ah n4 (ad.ja ((D4 m s).c))^ah n5 (ad.jo ((D4 m s).b))^ah n6 (ad.gx ((D4 m s).q)))^ah x (Ks.mk aW s)^ah y [aJ 0,aJ 0,aC 0,aC 0,aC 0,aC 0,aC 0,aC 0,a_ false,a_ false]):=h.aK;have h1:=hm.u1 hs;generalize rB m.r s=o at*
  generalize D4 m s=u at*
  refine aq (Ni b n1 n2 n3 n4 n5 n6 u h1 s hs) h λ_ w h=>?_;have h2:=h1.Rc hs;have e:Ra u o s=mr (tc (ru (kD (iH (ff u s) s) o s)) s) s o:=rfl;rw[e];generalize ff u s=v at*
  have h:au w0 S R w ((ah b (ad.ii n1 n2 n3 n4 n5 n6 v)^ah n1 (ad.gy v.w)^ah n2 (ad.jM v.r)^ah n3 (ad.jG v.p)^ah n4 (ad.ja v.c)^ah n5 (ad.jo v.b)^ah n6 (ad.gx v.q))^ah x (Ks.mk aW s)^ah y [aJ 0,aJ 0,aC 0,aC 0,aC 0,aC 0,aC 0,aC 0,a_ false,a_ false]):=h.aK;refine aS h (λ_=>(ah b (ad.ii n1 n2 n3 n4 n5 n6 ((iH v s)))^ah n1 (ad.gy ((iH v s).w))^ah n2 (ad.jM ((iH v s).r))^ah n3 (ad.jG ((iH v s).p))^ah n4 (ad.ja ((iH v s).c))^ah n5 (ad.jo ((iH v s).b))^ah n6 (ad.gx ((iH v s).q)))^ah x (Ks.mk aW s)^ah y [aJ 0,aJ 0,aC 0,aC 0,aC 0,aC 0,aC 0,aC 0,a_ false,a_ false]) (λ_=>True) (λ_ w _ h=>?_) ?_
  ·have h3:=h2.XV hs;generalize iH v s=z at*
   repeat' (first
    |(refine aM h λw h=>?_)
    |(refine ac ?_)
    |(refine ay h rfl ?_)
    |(refine aj h rfl ?_)
    |(refine aO h ?_)
    |(refine aN h rfl ?_)
    |(refine aA h (by rfl) λw h=>?_)
    |(refine aD h λn w h=>?_)
    |(refine aV h λw h=>?_)
    |(refine be h rfl λw h=>?_;dsimp only[dE,over]at h)
    |(refine aq (yZ n1 z.w) h λr w h=>?_;obtain⟨hr,h⟩:=h.aP;(try dsimp only at hr h);try rw[hr])
    |(refine aq (NL n3 z.p h3.p o (rz s) z.w.v0 h3.w.v0) h λr w h=>?_;obtain⟨hr,h⟩:=h.aP;(try dsimp only at hr h);try rw[hr]))
   have h4:gp (kD z o s):=h3.pipe;have h:au w0 S R _ ((ah b (ad.ii n1 n2 n3 n4 n5 n6 ((kD z o s)))^ah n1 (ad.gy ((kD z o s).w))^ah n2 (ad.jM ((kD z o s).r))^ah n3 (ad.jG ((kD z o s).p))^ah n4 (ad.ja ((kD z o s).c))^ah n5 (ad.jo ((kD z o s).b))^ah n6 (ad.gx ((kD z o s).q)))^ah x (Ks.mk aW s)^ah y [aJ 0,aJ 0,aC 0,aC 0,aC 0,aC 0,aC 0,aC 0,a_ false,a_ false]):=h.aK;generalize kD z o s=a at*
   refine aq (Kh b n1 n2 n3 n4 n5 n6 a h4 s hs) h λ_ w h=>?_;have h5:=h4.m1.m2 hs;generalize tc (ru a) s=a at*
   refine ay (x:=s) h rfl ?_;refine aq (Na b n1 n2 n3 n4 n5 n6 a h5 s hs o) h λ_ w h=>?_;have h6:gp (mr a s o):=h5.look hs;generalize mr a s o=a at*
   refine aq (zP b n1 n2 n3 n4 n5 n6 a h6) h λ_ w h=>?_;have e:Ng a o s tso=eK (bt (dO a) s o) s tso:=rfl;rw[e];have h7:=h6.RA;generalize dO a=a at*
   refine ay (x:=s) h rfl ?_;refine aq (RL b n1 n2 n3 n4 n5 n6 a h7 s hs o) h λ_ w h=>?_;have h8:gp (bt a s o):=h7.recover hs;generalize bt a s o=a at*
   refine ay (x:=s) h rfl ?_;refine aq (H6 b n1 n2 n3 n4 n5 n6 a h8 s hs tso ht) h λ_ w h=>?_;generalize eK a s tso=a at*
   refine aI (Ch b n1 n2 n3 n4 n5 n6 a) h λw h=>?_;refine aA h (by rfl) λw h=>?_;refine ay (x:=GQ a) h rfl ?_;exact au.aH rfl h.aK
  ·refine aS h (λ_=>(ah b (ad.ii n1 n2 n3 n4 n5 n6 v)^ah n1 (ad.gy v.w)^ah n2 (ad.jM v.r)^ah n3 (ad.jG v.p)^ah n4 (ad.ja v.c)^ah n5 (ad.jo v.b)^ah n6 (ad.gx v.q))^ah x (Ks.mk aW s)^ah y [aJ 0,aJ 0,aC 0,aC 0,aC 0,aC 0,aC 0,aC 0,a_ false,a_ false]) (λy:Bool=>y=decide (v.mode=2∧v.q.jl=false)) (λ(y:Bool) w hy h=>?_) ?_
   ·rw[hy];refine ae (λc=>?_) λc=>?_
    ·have c:v.mode=2∧v.q.jl=false:=cS;have e:iH v s={v with c:=cU v.c (i_ s) v.b.dz (gP s) (kP s) (sk v 320) (sk v 256)}:=(by unfold iH;rw[aF c]);rw[e];repeat' (first
      |(refine aM h λw h=>?_)
      |(refine ac ?_)
      |(refine ay h rfl ?_)
      |(refine aj h rfl ?_)
      |(refine aO h ?_)
      |(refine aN h rfl ?_)
      |(refine aA h (by rfl) λw h=>?_)
      |(refine aD h λn w h=>?_)
      |(refine aV h λw h=>?_)
      |(refine be h rfl λw h=>?_;dsimp only[dE,over]at h)
      |(refine aq (p_ n5 v.b) h λr w h=>?_;obtain⟨hr,h⟩:=h.aP;(try dsimp only at hr h);try rw[hr])
      |(refine aq (yY b n1 n2 n3 n4 n5 n6 v h2 320 (bh _)) h λr w h=>?_;obtain⟨hr,h⟩:=h.aP;(try dsimp only at hr h);try rw[hr])
      |(refine aq (yY b n1 n2 n3 n4 n5 n6 v h2 256 (bh _)) h λr w h=>?_;obtain⟨hr,h⟩:=h.aP;(try dsimp only at hr h);try rw[hr]))
     refine aq (Mq n4 v.c h2.c (i_ s) v.b.dz (gP s) (kP s) (sk v 320) (sk v 256) hs.af) h λ_ w h=>?_;exact⟨trivial,h.aK⟩
    ·have c:¬(v.mode=2∧v.q.jl=false):=cS;have e:iH v s=v:=(by unfold iH;rw[aw c]);rw[e];exact⟨trivial,h.aK⟩
   ·repeat' (first
     |(refine aM h λw h=>?_)
     |(refine ac ?_)
     |(refine ay h rfl ?_)
     |(refine aj h rfl ?_)
     |(refine aO h ?_)
     |(refine aN h rfl ?_)
     |(refine aA h (by rfl) λw h=>?_)
     |(refine aD h λn w h=>?_)
     |(refine aV h λw h=>?_)
     |(refine be h rfl λw h=>?_;dsimp only[dE,over]at h))
    refine ae (λc=>?_) λc=>?_
    ·have c:v.mode=2:=cS;repeat' (first
      |(refine aM h λw h=>?_)
      |(refine ac ?_)
      |(refine ay h rfl ?_)
      |(refine aj h rfl ?_)
      |(refine aO h ?_)
      |(refine aN h rfl ?_)
      |(refine aA h (by rfl) λw h=>?_)
      |(refine aD h λn w h=>?_)
      |(refine aV h λw h=>?_)
      |(refine be h rfl λw h=>?_;dsimp only[dE,over]at h)
      |(refine aq (C8 b n1 n2 n3 n4 n5 n6 v) h λr w h=>?_;obtain⟨hr,h⟩:=h.aP;(try dsimp only at hr h);try rw[hr]))
     exact⟨by rw[jH];simp[c],h.aK⟩
    ·have c:¬v.mode=2:=cS;exact⟨by simp[c],h.aK⟩
end
end Xk

namespace eX
open bK bp
abbrev Bf:=Int×Int×Int×Int
abbrev qX:Ks:=[.int .u64,.int .u64,.int .u64,.int .u64]
abbrev bW(b:Bf):Int:=b.1
abbrev bN(b:Bf):Int:=b.2.1
abbrev bU(b:Bf):Int:=b.2.2.1
abbrev bL(b:Bf):Int:=b.2.2.2
structure rN(b:Bf):Prop where
 u:0≤bU b
 un:bU b≤bN b
 nw:bN b≤bW b
 l:bW b-bU b≤bL b
 ll:bL b≤1073741824
 w:bW b≤4611686018427387904
def AZ(b:Bf)(n:Int):Int×Bf:=if n<1 then(1,b)else if n>bL b-(bW b-bU b)then(5,b)else(0,(bW b+n,bN b,bU b,bL b))
def ly(b:Bf)(most:Int):((Int×Int)×Bool)×Bf:=if most≥1∧bW b-bN b≠0 then(((bN b,bN b+min (bW b-bN b) most),true),(bW b,bN b+min (bW b-bN b) most,bU b,bL b))else(((0,0),false),b)
def tD(b:Bf)(upto:Int):Int×Bf:=if upto>bN b then(11,b)else(0,(bW b,bN b,if upto>bU b then upto else bU b,bL b))
theorem rN.ak(h:rN b)(upto:Int):rN (tD b upto).2:=by
 have h1:=h.u;have h2:=h.un;have h3:=h.nw;have h4:=h.l;unfold tD;split
 ·exact h
 ·refine⟨?_,?_,h3,?_,h.ll,h.w⟩
  ·show 0≤if upto>bU b then upto else bU b
   split<;>omega
  ·show(if upto>bU b then upto else bU b)≤bN b;split<;>omega
  ·show bW b-(if upto>bU b then upto else bU b)≤bL b;split<;>omega
theorem y4(n:Int):bx (TL n) bg (λr=>ex λp:Nat=>br (r=some ⟨p,0⟩) (ah p (Ks.mk qX (0,0,0,u64.wrap (if(1073741824:Int)<(if(0:Int)>n then(0:Int)else n)then(1073741824:Int)else(if(0:Int)>n then(0:Int)else n)))))):=
 bF λw0 S R h=>by
  refine aD h λp w h=>?_;exact au.gI p (au.aH rfl h.bq)
theorem xS(p b)(hb:rN b):bx (Qg (some ⟨p,0⟩)) (ah p (Ks.mk qX b)) (λr=>br (r=bW b-bN b) (ah p (Ks.mk qX b))):=
 bF λw0 S R h=>by
  have h2:=hb.un;have h3:=hb.nw;have h4:=hb.u;have h5:=hb.w;refine ae (λc=>(by simp at c)) λ_=>aM h λw h=>ac (ac (aj h rfl (aj h rfl ?_)));exact au.aH (iy (n:=bW b-bN b)) h
theorem JB(p b)(hb:rN b):bx (UJ (some ⟨p,0⟩)) (ah p (Ks.mk qX b)) (λr=>br (r=bW b-bU b) (ah p (Ks.mk qX b))):=
 bF λw0 S R h=>by
  have h2:=hb.un;have h3:=hb.nw;have h4:=hb.u;have h5:=hb.w;refine ae (λc=>(by simp at c)) λ_=>aM h λw h=>ac (ac (aj h rfl (aj h rfl ?_)));exact au.aH (iy (n:=bW b-bU b)) h
theorem Gj(p b)(hb:rN b)(n:Int)(hn:n<9223372036854775808):bx (Ud (some ⟨p,0⟩) n) (ah p (Ks.mk qX b)) (λr=>br (r=(AZ b n).1) (ah p (Ks.mk qX (AZ b n).2))):=
 bF λw0 S R h=>by
  have h1:=hb.un;have h2:=hb.nw;have h3:=hb.u;have h4:=hb.l;have h5:=hb.ll;have h6:=hb.w;refine ae (λc=>(by simp at c)) λ_=>ae (λc=>?_) λc=>?_
  ·have c:n<1:=bZ c;have e:AZ b n=(1,b):=(by unfold AZ;rw[aF c]);rw[e];exact au.aH rfl h
  have c:¬n<1:=cd c;refine aM h λw h=>ac (aj h rfl (aI (JB p b hb) h λw h=>?_));refine aN h rfl (ae (λc2=>?_) λc2=>?_)
  ·have c2:=bZ c2;have c2:u64.wrap n>u64.wrap (bL b-(bW b-bU b)):=c2;rw[iy (n:=n),iy (n:=bL b-(bW b-bU b))]at c2;have e:AZ b n=(5,b):=(by unfold AZ;rw[aw c,aF c2]);rw[e];exact au.aH rfl h.aK
  ·have c2:=cd c2;have c2:¬u64.wrap n>u64.wrap (bL b-(bW b-bU b)):=c2;rw[iy (n:=n),iy (n:=bL b-(bW b-bU b))]at c2;have e:AZ b n=(0,(bW b+n,bN b,bU b,bL b)):=(by unfold AZ;rw[aw c,aw c2]);rw[e];have ew:u64.wrap (bW b+u64.wrap n)=bW b+n:=(by rw[iy (n:=n)];exact iy);refine ac (aj h rfl (ac ?_));rw[show u64.wrap (b.1+u64.wrap n)=bW b+n from ew];refine aB h p (Ks.mk qX (bW b+n,bN b,bU b,bL b)) rfl rfl rfl λw h=>?_;exact au.aH rfl h.aK
theorem JC(p b)(hb:rN b)(most:Int)(hm:most<9223372036854775808):bx (Ev (some ⟨p,0⟩) most) (ah p (Ks.mk qX b)) (λr=>br (r=(ly b most).1) (ah p (Ks.mk qX (ly b most).2))):=
 bF λw0 S R h=>by
  have h1:=hb.un;have h2:=hb.nw;have h3:=hb.u;have h6:=hb.w;refine aD h λn1 w h=>aD h λn2 w h=>aA h (by rfl) λw h=>?_;refine aS h (λ_=>ah n1 [aC 0,aC 0]^ah n2 [aC (ly b most).1.1.1,aC (ly b most).1.1.2]^ah p (Ks.mk qX (ly b most).2)) (λy:Bool=>y=(ly b most).1.2) (λ(y:Bool) w hy h=>?_) ?_
  ·refine ay (b:=n2) (x:=(ly b most).1.1) h rfl (aA h (by rfl) λw h=>ay (b:=n1) (x:=(ly b most).1.1) h rfl ?_);refine au.aH ?_ h.aK;rw[hy]
  ·have no:∀{w:World},¬(most≥1∧bW b-bN b≠0)→au w0 S R w (ah n1 [aC 0,aC 0]^ah n2 [aC 0,aC 0]^ah p (Ks.mk qX b))→(λy:Bool=>y=(ly b most).1.2) false∧au w0 S R w (ah n1 [aC 0,aC 0]^ah n2 [aC (ly b most).1.1.1,aC (ly b most).1.1.2]^ah p (Ks.mk qX (ly b most).2)):=λ{w} c h=>by
    have e:ly b most=(((0,0),false),b):=(by unfold ly;rw[aw c]);rw[e];exact⟨rfl,h⟩
   have h:au w0 S R w (ah n1 [aC 0,aC 0]^ah n2 [aC 0,aC 0]^ah p (Ks.mk qX b)):=h.aK;refine cZ (λ_:Bool=>ah n1 [aC 0,aC 0]^ah n2 [aC 0,aC 0]^ah p (Ks.mk qX b)) (λy:Bool=>y=false) (λ_=>0) h rfl ?_;rintro(y:Bool) w hy h;rw[hy];refine ae (λc=>?_) λc=>?_
   ·have c:most≥1:=bZ c;refine aI (xS p b hb) h λw h=>?_;have ek:(if bW b-bN b<u64.wrap most then bW b-bN b else u64.wrap most)=min (bW b-bN b) most:=by
     rw[iy (n:=most)];split<;>omega
    rw[ek];refine ae (λc2=>?_) λc2=>?_
    ·have c2:min (bW b-bN b) most=0:=gJ;exact no (by omega) h.aK
    ·have c2:¬min (bW b-bN b) most=0:=gJ;have e:ly b most=(((bN b,bN b+min (bW b-bN b) most),true),(bW b,bN b+min (bW b-bN b) most,bU b,bL b)):=(by unfold ly;rw[aF ⟨c,by omega⟩]);have ew:u64.wrap (bN b+min (bW b-bN b) most)=bN b+min (bW b-bN b) most:=iy;rw[e];refine aM h λw h=>ac (ac (aj h rfl (aj h rfl ?_)));rw[show u64.wrap (b.2.1+min (bW b-bN b) most)=bN b+min (bW b-bN b) most from ew];refine aA h (by rfl) λw h=>ac (aj h rfl (ac ?_));rw[show u64.wrap (b.2.1+min (bW b-bN b) most)=bN b+min (bW b-bN b) most from ew];refine aB h p (Ks.mk qX (bW b,bN b+min (bW b-bN b) most,bU b,bL b)) rfl rfl rfl λw h=>?_;exact⟨rfl,h.aK⟩
   ·have c:¬most≥1:=cd c;exact no (λx=>c x.1) h
theorem Gf(p b)(upto:Int):bx (Ue (some ⟨p,0⟩) upto) (ah p (Ks.mk qX b)) (λr=>br (r=(tD b upto).1) (ah p (Ks.mk qX (tD b upto).2))):=
 bF λw0 S R h=>by
  refine ae (λc=>(by simp at c)) λ_=>ac (aj h rfl (ae (λc=>?_) λc=>?_))
  ·have c:upto>bN b:=bZ c;have e:tD b upto=(11,b):=(by unfold tD;rw[aF c]);rw[e];exact au.aH rfl h
  ·have c:¬upto>bN b:=cd c;have e:tD b upto=(0,(bW b,bN b,if upto>bU b then upto else bU b,bL b)):=(by unfold tD;rw[aw c]);rw[e];refine ac (aj h rfl (ac (aB h p (Ks.mk qX (bW b,bN b,if upto>bU b then upto else bU b,bL b)) rfl rfl rfl λw h=>?_)));exact au.aH rfl h.aK
end eX

namespace ga
open bK bp
abbrev Sp:=Int×Int×Int×Int×Bool×Int×Int×Int×Bool×Int×Int
abbrev nO:Ks:=[.int .u64,.int .u64,.int .u64,.int .u64,.bool,.int .u64,.int .u64,.int .u64,.bool,.int .u64,.int .u64]
abbrev Zo:Ks:=[.int .u64,.int .u64,.int .u64,.int .u64,.bool]
abbrev Sn:=Int×Int×Int×Int×Bool
abbrev Ts:Ks:=[.int .u64,.int .u64,.int .u64,.int .u64,.int .u64,.int .u64,.int .u64,.int .u64,.bool]
abbrev Sa:=Int×Int×Int×Int×Int×Int×Int×Int×Bool
abbrev pD(s:Sp):Int:=s.1
abbrev pT(s:Sp):Int:=s.2.1
abbrev pF(s:Sp):Int:=s.2.2.1
abbrev pL(s:Sp):Int:=s.2.2.2.1
abbrev pH(s:Sp):Bool:=s.2.2.2.2.1
abbrev pG(s:Sp):Int:=s.2.2.2.2.2.1
abbrev oN(s:Sp):Int:=s.2.2.2.2.2.2.1
abbrev nH(s:Sp):Int:=s.2.2.2.2.2.2.2.1
abbrev od(s:Sp):Bool:=s.2.2.2.2.2.2.2.2.1
abbrev m_(s:Sp):Int:=s.2.2.2.2.2.2.2.2.2.1
abbrev nG(s:Sp):Int:=s.2.2.2.2.2.2.2.2.2.2
structure pS(s:Sp):Prop where
 d:U (pD s)
 t:U (pT s)
 f:U (pF s)
 l:U (pL s)
 g:U (pG s)
 pd:U (oN s)
 pt:U (nH s)
 si:U (m_ s)
 ai:U (nG s)
def YB:Sp:=(0,0,0,0,false,0,0,0,false,0,0)
theorem Wq:pS YB:=⟨bh 0,bh 0,bh 0,bh 0,bh 0,bh 0,bh 0,bh 0,bh 0⟩
def gQ(s:Sp)(af flight:Int):Sp:=if flight=0 then(pD s,af,af,pL s,pH s,pG s,oN s,nH s,od s,m_ s,nG s)else s
def jJ(s:Sp)(af flight:Int):Sn×Sp:=((af,pD (gQ s af flight),pT (gQ s af flight),pF (gQ s af flight),decide (pL (gQ s af flight)≠0)),gQ s af flight)
def oz(s:Sp)(flight:Int):Sp:=(pD s,pT s,pF s,(if bH (pD s) flight>1 then bH (pD s) flight else 1),pH s,pG s,oN s,nH s,od s,m_ s,nG s)
def jF(a b:Int):Int:=if b≤(if a≤0 then 0 else a)then(if a≤0 then 0 else a)else b
def gh(s:Sp)(af bn flight:Int):Sa×Sp:=(if pH s then(af,pD s,oN s,jF (m_ s) (dV af (nH s)),nG s,pG s,bn,flight,od s)else(af,pD s,0,0,0,0,bn,flight,false),(pD s,pT s,pF s,pL s,false,0,0,0,false,0,0))
theorem ku:bx TN bg (λr=>ex λp:Nat=>br (r=some ⟨p,0⟩) (ah p (Ks.mk nO YB))):=
 bF λw0 S R h=>by
  refine aD h λp w h=>?_;exact au.gI p (au.aH rfl h.bq)
theorem sG(p s)(af flight:Int):bx (LY (some ⟨p,0⟩) af flight) (ah p (Ks.mk nO s)) (λr=>br (r=(jJ s af flight).1) (ah p (Ks.mk nO (jJ s af flight).2))):=
 bF λw0 S R h=>by
  refine aD h λn1 w h=>ae (λc=>(by simp at c)) λ_=>?_;refine aS h (λ_=>ah n1 [aC 0,aC 0,aC 0,aC 0,a_ false]^ah p (Ks.mk nO (gQ s af flight))) (λ_=>True) (λ_ w _ h=>?_) ?_
  ·refine aM h λw h=>ac (ac (ac (ac (aj h rfl (aj h rfl (aj h rfl (aj h rfl ?_)))))));have eb:((gQ s af flight).2.2.2.1 !=(0:Int))=decide (pL (gQ s af flight)≠0):=by rw[jH];simp
   rw[eb];refine aA h (by rfl) λw h=>ay (b:=n1) (x:=(jJ s af flight).1) h rfl ?_;refine au.aH rfl ?_;rw[show(jJ s af flight).2=gQ s af flight from rfl];exact h.aK
  ·refine ae (λc=>?_) λc=>?_
   ·have c:flight=0:=cS;have e:gQ s af flight=(pD s,af,af,pL s,pH s,pG s,oN s,nH s,od s,m_ s,nG s):=(by unfold gQ;rw[aF c]);rw[e];refine ac (aB h p (Ks.mk nO (pD s,pT s,af,pL s,pH s,pG s,oN s,nH s,od s,m_ s,nG s)) rfl rfl rfl λw h=>?_);refine ac (aB h p (Ks.mk nO (pD s,af,af,pL s,pH s,pG s,oN s,nH s,od s,m_ s,nG s)) rfl rfl rfl λw h=>?_);exact⟨trivial,h.aK⟩
   ·have c:¬flight=0:=cS;have e:gQ s af flight=s:=(by unfold gQ;rw[aw c]);rw[e];exact⟨trivial,h⟩
theorem J_(p s)(hs:pS s)(flight:Int)(hf:U flight):bx (UO (some ⟨p,0⟩) flight) (ah p (Ks.mk nO s)) (λ_=>ah p (Ks.mk nO (oz s flight))):=
 bF λw0 S R h=>by
  refine ae (λ_=>?_) λc=>(by simp at c);refine ac (aj h rfl (aI (e_ (pD s) flight hs.d hf) h λw h=>?_));refine ac (aB h p (Ks.mk nO (oz s flight)) rfl rfl rfl λw h=>?_);exact h.aK
theorem E2(sl)(a b:Int):bx (Vn sl) (bg^aZ sl KU [a,b]) (λr=>br (r=jF a b) bg):=
 bF λw0 S R h=>by
  have h:au w0 S R w0 (aZ sl KU [a,b]^bg):=h.aK;have hs:sl.len=2:=(h.rd (s:=sl)).2;have e1:i64.wrap ((0:Int)+1)=1:=rfl;have e2:i64.wrap ((1:Int)+1)=2:=rfl;obtain⟨m,hm⟩:∃m,m=if a≤0 then 0 else a:=⟨_,rfl⟩
  refine cZ (λ_:Int×Int=>aZ sl KU [a,b]^bg) (λy:Int×Int=>y=(0,0)∨y=(m,1)∨y=(jF a b,2)) (λy:Int×Int=>(2-y.2).toNat) h (.inl rfl) ?_;rintro(y:Int×Int) w hy h;rcases hy with rfl|rfl|rfl
  ·refine ae (λ_=>?_) λc=>(by rw[hs]at c;cases c);refine bT (s:=sl) h (by decide) (by simp) (eE h sl 0 (y:=a) rfl rfl ?_);dsimp only;rw[e1];refine ae (λc=>?_) λc=>?_
   ·have c:a≤0:=bZ c;rw[aF c]at hm;exact⟨⟨.inr (.inl (by rw[hm])),h⟩,by show(2-(1:Int)).toNat<(2-(0:Int)).toNat;omega⟩
   ·have c:¬a≤0:=cd c;rw[aw c]at hm;exact⟨⟨.inr (.inl (by rw[hm])),h⟩,by show(2-(1:Int)).toNat<(2-(0:Int)).toNat;omega⟩
  ·refine ae (λ_=>?_) λc=>(by rw[hs]at c;cases c);refine bT (s:=sl) h (show(0:Int)≤1 by decide) (by show 1<2;decide) (eE h sl 1 (y:=b) rfl rfl ?_);dsimp only;rw[e2];refine ae (λc=>?_) λc=>?_
   ·have c:b≤m:=bZ c;have e:jF a b=m:=(by unfold jF;rw[←hm,aF c]);exact⟨⟨.inr (.inr (by rw[e])),h⟩,by show(2-(2:Int)).toNat<(2-(1:Int)).toNat;omega⟩
   ·have c:¬b≤m:=cd c;have e:jF a b=b:=(by unfold jF;rw[←hm,aw c]);exact⟨⟨.inr (.inr (by rw[e])),h⟩,by show(2-(2:Int)).toNat<(2-(1:Int)).toNat;omega⟩
  ·refine ae (λc=>(by rw[hs]at c;cases c)) λ_=>?_;exact au.aH rfl h.h_
def bm(m:Int):Int:=if 9000<(if 100>m then 100 else m)then 9000 else(if 100>m then 100 else m)
theorem rT(m:Int):100≤bm m∧bm m≤9000:=by unfold bm;(repeat' split)<;>omega
def wv(aY bs:Int):Int:=(if(if aY/1024/bm bs<2 then 2 else aY/1024/bm bs)>65536/bm bs then 65536/bm bs else(if aY/1024/bm bs<2 then 2 else aY/1024/bm bs))*bm bs
theorem sM(aY bs:Int)(hr:0≤aY):200≤wv aY bs∧wv aY bs≤65536:=by
 have hm:=rT bs;have hk:7≤65536/bm bs:=by rw[De (by omega)];omega
 have hk2:65536/bm bs*bm bs≤65536:=Int.ediv_mul_le _ (by omega);obtain⟨y,hy⟩:∃y,y=(if(if aY/1024/bm bs<2 then 2 else aY/1024/bm bs)>65536/bm bs then 65536/bm bs else(if aY/1024/bm bs<2 then 2 else aY/1024/bm bs)):=⟨_,rfl⟩;have hy2:2≤y∧y≤65536/bm bs:=by rw[hy];(repeat' split)<;>omega
 have e:wv aY bs=y*bm bs:=by unfold wv;rw[←hy]
 rw[e];have h1:2*bm bs≤y*bm bs:=NO hy2.1 (by omega);have h2:y*bm bs≤65536/bm bs*bm bs:=NO hy2.2 (by omega);omega
theorem R6(aY bs:Int)(hr:U aY):bx (UT aY bs) bg (λr=>br (r=wv aY bs) bg):=
 bF λw0 S R h=>by
  have hm:=rT bs;unfold U at hr;have em:u64.wrap (if(9000:Int)<(if(100:Int)>bs then(100:Int)else bs)then(9000:Int)else(if(100:Int)>bs then(100:Int)else bs))=bm bs:=iy (n:=bm bs);rw[em];have ht:=sM aY bs hr.1;have hk:7≤65536/bm bs:=by rw[De (by omega)];omega
  have hk9:65536/bm bs≤65536:=Ae _ (by decide);have eq1:u64.wrap (aY.tdiv 1024)=aY/1024:=by rw[l_ hr.1];exact iy
  have hq0:0≤aY/1024/bm bs:=Dr (by omega) (by omega);have hq1:aY/1024/bm bs≤aY/1024:=Ae _ (by omega);have eq2:u64.wrap ((aY/1024).tdiv (bm bs))=aY/1024/bm bs:=by rw[l_ (by omega)];exact iy
  have eq3:u64.wrap ((65536:Int).tdiv (bm bs))=65536/bm bs:=by rw[l_ (by decide)];exact iy
  rw[eq1,eq2,eq3];obtain⟨y0,hy0⟩:∃y0,y0=aY/1024/bm bs:=⟨_,rfl⟩;obtain⟨k,hkk⟩:∃k,k=65536/bm bs:=⟨_,rfl⟩;have et:wv aY bs=(if(if y0<2 then 2 else y0)>k then k else(if y0<2 then 2 else y0))*bm bs:=by unfold wv;rw[←hy0,←hkk]
  rw[←hy0,←hkk];rw[←hkk]at hk hk9;refine⟨by omega,?_⟩;refine cZ (λ_:Int=>bg) (λy:Int=>0≤y∧(if(if y<2 then 2 else y)>k then k else(if y<2 then 2 else y))=(if(if y0<2 then 2 else y0)>k then k else(if y0<2 then 2 else y0))) (λy:Int=>if y<2 then 2 else if y>k then 1 else 0) h ⟨by rw[hy0];exact hq0,rfl⟩ ?_;rintro(y:Int) w ⟨hy,hye⟩ h;refine ae (λc=>?_) λc=>?_
  ·have c:y<2:=bZ c;refine⟨⟨⟨by decide,?_⟩,h⟩,?_⟩
   ·rw[←hye,aF c];rfl
   ·rw[aF c,aw (by decide),aw (by omega)];decide
  ·have c:¬y<2:=cd c;rw[aw c]at hye;refine⟨by omega,ae (λc2=>?_) λc2=>?_⟩
   ·have c2:y>k:=bZ c2;rw[aF c2]at hye;refine⟨by omega,⟨⟨by omega,?_⟩,h⟩,?_⟩
    ·rw[aw (show ¬k<2 by omega),aw (by omega)];exact hye
    ·rw[aw (show ¬k<2 by omega),aw (by omega),aw c,aF c2];decide
   ·have c2:¬y>k:=cd c2;rw[aw c2]at hye;refine au.aH ?_ h;rw[et,←hye]at ht⊢;rw[iy (n:=y*bm bs),fu (n:=y*bm bs)]
def io(aY tso most:Int):Int:=jF (2*tso) (if most<aY/1024 then most else aY/1024)
theorem JA(aY tso most:Int)(hr:U aY)(ht:0≤tso∧tso≤65536)(hm:-9223372036854775808≤most∧most<9223372036854775808):bx (UQ aY tso most) bg (λr=>br (r=io aY tso most) bg):=
 bF λw0 S R h=>by
  unfold U at hr;have e1:i64.wrap ((0:Int)+1)=1:=rfl;have e2:i64.wrap ((1:Int)+1)=2:=rfl;have ea:u64.wrap ((2:Int)*(u64.wrap (if(0:Int)>tso then(0:Int)else tso)))=2*tso:=by
   rw[aw (by omega),iy (n:=tso)];exact iy
  have eb:(if(u64.wrap (if(0:Int)>most then(0:Int)else most))<(u64.wrap (aY.tdiv (1024:Int)))then(u64.wrap (if(0:Int)>most then(0:Int)else most))else(u64.wrap (aY.tdiv (1024:Int))))=if(if(0:Int)>most then(0:Int)else most)<aY/1024 then(if(0:Int)>most then(0:Int)else most)else aY/1024:=by rw[wu (n:=if(0:Int)>most then(0:Int)else most) (by split<;>omega) (by split<;>omega),l_ hr.1,iy (n:=aY/1024)]
  rw[ea,eb];obtain⟨x,hx⟩:∃x,x=2*tso:=⟨_,rfl⟩;obtain⟨z,hz⟩:∃z,z=if(if(0:Int)>most then(0:Int)else most)<aY/1024 then(if(0:Int)>most then(0:Int)else most)else aY/1024:=⟨_,rfl⟩
  have eL:io aY tso most=jF x z:=by
   unfold io;rw[←hx];by_cases c:(0:Int)>most
   ·rw[aF c]at hz;have hz0:z=0:=by rw[hz];split<;>omega
    rw[hz0,aF (show most<aY/1024 by omega)];unfold jF;repeat' split
    all_goals omega
   ·rw[aw c]at hz;rw[←hz]
  rw[←hx,←hz,eL];obtain⟨m,hmm⟩:∃m,m=if x≤0 then 0 else x:=⟨_,rfl⟩
  refine cZ (λ_:Int×Int=>bg) (λy:Int×Int=>y=(0,0)∨y=(m,1)∨y=(jF x z,2)) (λy:Int×Int=>(2-y.2).toNat) h (.inl rfl) ?_;rintro(y:Int×Int) w hy h;rcases hy with rfl|rfl|rfl
  ·refine ae (λ_=>?_) λc=>(by cases c);refine⟨⟨by show(0:Int)≤0;decide,by show(0:Int)<2;decide⟩,(x:Int),rfl,?_⟩;dsimp only;rw[e1];refine ae (λc=>?_) λc=>?_
   ·have c:x≤0:=bZ c;rw[aF c]at hmm;exact⟨⟨.inr (.inl (by rw[hmm])),h⟩,by show(2-(1:Int)).toNat<(2-(0:Int)).toNat;omega⟩
   ·have c:¬x≤0:=cd c;rw[aw c]at hmm;exact⟨⟨.inr (.inl (by rw[hmm])),h⟩,by show(2-(1:Int)).toNat<(2-(0:Int)).toNat;omega⟩
  ·refine ae (λ_=>?_) λc=>(by cases c);refine⟨⟨by show(0:Int)≤1;decide,by show(1:Int)<2;decide⟩,(z:Int),rfl,?_⟩;dsimp only;rw[e2];refine ae (λc=>?_) λc=>?_
   ·have c:z≤m:=bZ c;have e:jF x z=m:=(by unfold jF;rw[←hmm,aF c]);exact⟨⟨.inr (.inr (by rw[e])),h⟩,by show(2-(2:Int)).toNat<(2-(1:Int)).toNat;omega⟩
   ·have c:¬z≤m:=cd c;have e:jF x z=z:=(by unfold jF;rw[←hmm,aw c]);exact⟨⟨.inr (.inr (by rw[e])),h⟩,by show(2-(2:Int)).toNat<(2-(1:Int)).toNat;omega⟩
  ·refine ae (λc=>(by cases c)) λ_=>?_;exact au.aH rfl h
theorem nT(out limit:Int):bx (UP out limit) bg (λr=>br (r=decide (out<limit)) bg):=
 bF λw0 S R h=>by exact au.aH rfl h
end ga

namespace eC
open bK bp ik fg gT fQ eX ga
abbrev Sg:=Int×Int×Int×Int×Bool
abbrev Ro:Sg:=(0,0,0,0,false)
structure Sk where
 id:Int
 bs:Int
 cap:Int
 bf:Bf
 bd:List Pc×Int
 sp:Sp
 md:Md
 out:Int
 nx:Int
def bu(v:Sk):Int:=wv v.md.aY v.bs
def c_(v:Sk):Int:=dD v.bd.1
def dW(v:Sk):Int×Sk:=
 if(bD v.bd.1).2=false∧bW v.bf-bN v.bf=0 then(7,if c_ v<v.md.cO then{v with sp:=oz v.sp (c_ v)}else v)
 else if ¬(c_ v<v.md.cO∧v.out<io v.md.aY (bu v) v.cap)then(5,v)
 else if(bD v.bd.1).2=false∧(v.bd.1.length:Int)≥4096 then(5,v)else(0,v)
def lr(v:Sk)(rg:Int×Int)(again:Bool)(af:Int):Sg×Sk:=
 ((v.id,rg.1,rg.2-rg.1,(if v.nx>af then v.nx else af),again),{v with nx:=bH (if v.nx>af then v.nx else af) (dZ (rg.2-rg.1) v.md.aY),out:=v.out+(rg.2-rg.1)})
abbrev eJ(v:Sk)(af:Int):Sk:={v with sp:=(jJ v.sp af (c_ v)).2}
def uW(v:Sk)(af:Int):Sg×Sk:=
 if(bD v.bd.1).2 then lr {eJ v af with bd:=(dJ v.bd.1 (jJ v.sp af (c_ v)).1,v.bd.2)} (bD v.bd.1).1 true af
 else lr {eJ v af with bf:=(ly v.bf (bu v)).2,bd:=(dP v.bd (ly v.bf (bu v)).1.1.1 (ly v.bf (bu v)).1.1.2 (jJ v.sp af (c_ v)).1).2} (ly v.bf (bu v)).1.1 false af
def cm(v:Sk)(af:Int):(Sg×Int)×Sk:=if(dW v).1≠0 then((Ro,(dW v).1),(dW v).2)else(((uW v af).1,0),(uW v af).2)
def cv(v:Sk)(n:Int):Int×Sk:=if n<1∨n>v.out then(1,v)else(0,{v with out:=v.out-n})
def eG(v:Sk)(n:Int):Int×Sk:=((AZ v.bf n).1,{v with bf:=(AZ v.bf n).2})
def jX(v:Sk)(af bn:Int):Sk:={v with sp:=(gh v.sp af bn (c_ v)).2,md:=pC v.md (gh v.sp af bn (c_ v)).1 (bu v)}
def iz(v:Sk)(af:Int):Sk:=jX {v with bd:=(v.bd.1.map fj,v.bd.2)} af (dD v.bd.1)
def iU(id bs cap:Int):Sk:=⟨id,bm bs,cap,(0,0,0,1073741824),([],0),YB,mJ (bm bs),0,0⟩
end eC

namespace fe
open bK bp ik fg gT fQ eX ga eC
abbrev N7:=Nat×Nat×Nat×Nat×Nat×Nat×Nat
def xm(x:N7)(m:Md):SP:=match x with
 |(b,n1,n2,n3,n4,n5,n6)=>ah b (ad.ii n1 n2 n3 n4 n5 n6 m)^ah n1 (ad.gy m.w)^ah n2 (ad.jM m.r)^ah n3 (ad.jG m.p)^ah n4 (ad.ja m.c)^ah n5 (ad.jo m.b)^ah n6 (ad.gx m.q)
instance(x:N7)(m:Md):nt (xm x m):=by unfold xm;infer_instance
theorem yz(x m):bx (wX (some ⟨x.1,0⟩)) (xm x m) (λr=>br (r=GQ m) (xm x m)):=by
 obtain⟨b,n1,n2,n3,n4,n5,n6⟩:=x;exact Lj.Ch b n1 n2 n3 n4 n5 n6 m
theorem Nn(x m)(hm:gp m)(s)(hs:mN s)(tso:Int)(ht:U tso):bx (Qe (some ⟨x.1,0⟩) s tso) (xm x m) (λr=>br (r=GQ (pC m s tso)) (xm x (pC m s tso))):=by
 obtain⟨b,n1,n2,n3,n4,n5,n6⟩:=x;exact Xk.R8 b n1 n2 n3 n4 n5 n6 m hm s hs tso ht
theorem Nj(n:Int):bx (PU n) bg (λr=>ex λx:N7=>br (r=some ⟨x.1,0⟩) (xm x (mJ n))):=
 (Lj.ku n).le Le.rfl λ_ _ _ _ ⟨⟨b,n1,n2,n3,n4,n5,n6⟩,h1,h2⟩=>⟨(b,n1,n2,n3,n4,n5,n6),h1,h2⟩
abbrev sL(v:Sk)(pb pd ps pm:Nat):List Lf:=[aJ v.id,aJ v.bs,aJ v.cap,.ptr (some ⟨pb,0⟩),.ptr (some ⟨pd,0⟩),.ptr (some ⟨ps,0⟩),.ptr (some ⟨pm,0⟩),aC v.out,aC v.nx]
def mP(p:Nat)(v:Sk):SP:=ex λx:Nat×Nat×Nat×N7=>ah p (sL v x.1 x.2.1 x.2.2.1 x.2.2.2.1)^ah x.1 (Ks.mk qX v.bf)^kT x.2.1 v.bd^ah x.2.2.1 (Ks.mk nO v.sp)^xm x.2.2.2 v.md
instance(p:Nat)(v:Sk):nt (mP p v):=by unfold mP;infer_instance
section
variable {w0 w:World} {S0 R0:Nat→Prop} {F G:SP}
theorem _root_.Go.X.au.mP(h:au w0 S0 R0 w F)(p)[tk:ou fe.mP p F v G]:∃(pb pd ps:Nat) (x:N7),au w0 S0 R0 w (ah p (sL v pb pd ps x.1)^ah pb (Ks.mk qX v.bf)^kT pd v.bd^ah ps (Ks.mk nO v.sp)^xm x v.md^G):=by
 obtain⟨x,h⟩:=(h.le tk.le).lS;exact⟨x.1,x.2.1,x.2.2.1,x.2.2.2,h.aK⟩
theorem _root_.Go.X.au.nC(h:au w0 S0 R0 w F)(p pb pd ps x v)[tk:Take (ah p (sL v pb pd ps x.1)^ah pb (Ks.mk qX v.bf)^kT pd v.bd^ah ps (Ks.mk nO v.sp)^xm x v.md) F G]:au w0 S0 R0 w (fe.mP p v^G):=
 au.tH (f:=λx:Nat×Nat×Nat×N7=>ah p (sL v x.1 x.2.1 x.2.2.1 x.2.2.2.1)^ah x.1 (Ks.mk qX v.bf)^kT x.2.1 v.bd^ah x.2.2.1 (Ks.mk nO v.sp)^xm x.2.2.2 v.md) (pb,pd,ps,x) (h.le tk.le)
end
theorem mY(p pb pd ps:Nat)(x:N7)(v:Sk)(hl:v.bd.1.length≤4294967296):bx (Gn (some ⟨p,0⟩)) (ah p (sL v pb pd ps x.1)^kT pd v.bd) (λr=>br (r=c_ v) (ah p (sL v pb pd ps x.1)^kT pd v.bd)):=
 bF λw0 S R h=>by
  refine ae (λc=>(by simp at c)) λ_=>?_;refine ac (aj h rfl (aI (fg.GF pd v.bd hl) h λw h=>?_));exact au.aH rfl h.aK
theorem AQ(p pb pd ps x v)(hm:gp v.md):bx (Bg (some ⟨p,0⟩)) (ah p (sL v pb pd ps x.1)^xm x v.md) (λr=>br (r=bu v) (ah p (sL v pb pd ps x.1)^xm x v.md)):=
 bF λw0 S R h=>by
  refine ae (λc=>(by simp at c)) λ_=>?_;refine aM h λw h=>ac (ac (aj h rfl (aj h rfl (aI (yz x v.md) h λw h=>?_))));refine aN h rfl (aI (R6 (GQ v.md).2.2.1 v.bs hm.aY) h λw h=>?_);exact au.aH rfl h.aK
theorem Kg(p v):bx (c99 (some ⟨p,0⟩)) (mP p v) (λr=>br (r=GQ v.md) (mP p v)):=
 bF λw0 S R h=>by
  refine aD h λn w h=>ae (λc=>(by simp at c)) λ_=>?_;obtain⟨pb,pd,ps,x,h⟩:=h.mP p;refine ac (aj h rfl (aI (yz x v.md) h λw h=>?_));refine aA h (by rfl) λw h=>ay (b:=n) (x:=GQ v.md) h rfl ?_;exact au.aH rfl (h.nC p pb pd ps x v).aK
theorem K7(p v)(hb:rN v.bf)(n:Int)(hn:n<9223372036854775808):bx (TP (some ⟨p,0⟩) n) (mP p v) (λr=>br (r=(eG v n).1) (mP p (eG v n).2)):=
 bF λw0 S R h=>by
  refine ae (λc=>(by simp at c)) λ_=>?_;obtain⟨pb,pd,ps,x,h⟩:=h.mP p;refine ac (aj h rfl (aI (Gj pb v.bf hb n hn) h λw h=>?_));exact au.aH rfl (h.nC p pb pd ps x {v with bf:=(AZ v.bf n).2}).bq
theorem EE(p v)(ho:U v.out)(n:Int)(hn:n<9223372036854775808):bx (PW (some ⟨p,0⟩) n) (mP p v) (λr=>br (r=(cv v n).1) (mP p (cv v n).2)):=
 bF λw0 S R h=>by
  unfold U at ho;obtain⟨pb,pd,ps,x,h⟩:=(h.le (aG _)).mP p;refine aS h (λ_=>ah p (sL v pb pd ps x.1)^ah pb (Ks.mk qX v.bf)^kT pd v.bd^ah ps (Ks.mk nO v.sp)^xm x v.md) (λ_=>¬(n<1∨n>v.out)) (λ_ w hx h=>?_) ?_
  ·have e:cv v n=(0,{v with out:=v.out-n}):=(by unfold cv;rw[aw hx]);have ew:u64.wrap (v.out-u64.wrap n)=v.out-n:=(by rw[iy (n:=n)];exact iy);rw[e];refine ac (aj h rfl (ac ?_));rw[ew];refine aB h p (sL {v with out:=v.out-n} pb pd ps x.1) rfl rfl rfl λw h=>?_;exact au.aH rfl (h.nC p pb pd ps x {v with out:=v.out-n}).bq
  ·have bad:∀{w:World},(n<1∨n>v.out)→au w0 S R w (ah p (sL v pb pd ps x.1)^ah pb (Ks.mk qX v.bf)^kT pd v.bd^ah ps (Ks.mk nO v.sp)^xm x v.md^bg)→au w0 S R w (br ((1:Int)=(cv v n).1) (mP p (cv v n).2)):=λ{w} c h=>by
    have e:cv v n=(1,v):=(by unfold cv;rw[aF c]);rw[e];exact au.aH rfl (h.nC p pb pd ps x v).bq
   refine ae (λc=>(by simp at c)) λ_=>ae (λc=>?_) λc=>?_
   ·exact bad (.inl (bZ c)) h.aK
   ·have c:¬n<1:=cd c;refine ac (aj h rfl (ae (λc2=>?_) λc2=>?_))
    ·have c2:u64.wrap n>v.out:=bZ c2;rw[iy (n:=n)]at c2;exact bad (.inr c2) h.aK
    ·have c2:¬u64.wrap n>v.out:=cd c2;rw[iy (n:=n)]at c2;exact⟨by omega,h.aK⟩
end fe

namespace lL
open bK bp ik fg gT fQ eX ga eC fe
theorem LJ(b)(v:List Pc×Int):bx (UR (some ⟨b,0⟩)) (kT b v) (λr=>br (r=(v.1.length:Int)) (kT b v)):=
 bF λw0 S R h=>by
  refine ae (λc=>(by simp at c)) λ_=>?_;obtain⟨s,h⟩:=(h.le (aG _)).kT b;have hs:=(h.rd (s:=s)).2;refine ac (aj h rfl ?_);refine au.aH ?_ (h.pf b s v.1 v.2).bq;show((s.len:Nat):Int)=_;rw[hs]
structure pR(v:Sk):Prop where
 bf:rN v.bf
 bl:v.bd.1.length≤4096
 sp:pS v.sp
 md:gp v.md
 bs:100≤v.bs∧v.bs≤9000
 cap:-9223372036854775808≤v.cap∧v.cap<9223372036854775808
 out:U v.out
 nx:U v.nx
 fl:U (c_ v)
theorem nT(p v)(hv:pR v):bx (Uh (some ⟨p,0⟩)) (mP p v) (λr=>br (r=(dW v).1) (mP p (dW v).2)):=
 bF λw0 S R h=>by
  have hbl:v.bd.1.length≤4294967296:=by have:=hv.bl;omega
  have hts:=sM v.md.aY v.bs hv.md.aY.1;obtain⟨pb,pd,ps,x,h⟩:=(h.le (aG _)).mP p;refine ac (aj h rfl (aI (Ed pd v.bd hbl) h λw h=>?_));refine aD h λn4 w h=>aA h (by rfl) λw h=>ac (aj h rfl (aI (yz x v.md) h λw h=>?_));refine aD h λn8 w h=>aA h (by rfl) λw h=>aM h λw h=>aj (x:=v.md.cO) h rfl (aI (mY p pb pd ps x v hbl) h λw h=>?_);refine aN h rfl ?_;have h:au w0 S R w (ah n8 (Ks.mk eH (GQ v.md))^ah p (sL v pb pd ps x.1)^ah pb (Ks.mk qX v.bf)^kT pd v.bd^ah ps (Ks.mk nO v.sp)^xm x v.md):=h.aK;refine aS h (λ_=>ah n8 (Ks.mk eH (GQ v.md))^ah p (sL v pb pd ps x.1)^ah pb (Ks.mk qX v.bf)^kT pd v.bd^ah ps (Ks.mk nO v.sp)^xm x v.md) (λy:Bool=>y=true↔(bD v.bd.1).2=false∧bW v.bf-bN v.bf=0) (λ(y:Bool) w hy h=>?_) ?_;rotate_left
  ·refine ae (λc=>?_) λc=>?_
   ·have c:(bD v.bd.1).2=false:=cS;refine ac (aj h rfl (aI (xS pb v.bf hv.bf) h λw h=>?_));refine⟨?_,h.aK⟩;show(bW v.bf-bN v.bf==0)=true↔_;rw[sy];exact⟨λe=>⟨c,e⟩,λe=>e.2⟩
   ·have c:(bD v.bd.1).2=true:=cS;exact⟨⟨λe=>(by cases e),λe=>(by rw[c]at e;cases e.1)⟩,h⟩
  ·refine ae (λc=>?_) λc=>?_
   ·have c:=hy.1 c;have e:dW v=(7,if c_ v<v.md.cO then{v with sp:=oz v.sp (c_ v)}else v):=(by unfold dW;rw[aF c]);rw[e];refine ae (λc2=>?_) λc2=>?_
    ·have c2:c_ v<v.md.cO:=bZ c2;rw[aF c2];refine aM h λw h=>ac (aj h rfl (aI (mY p pb pd ps x v hbl) h λw h=>?_));refine aN h rfl (aq (J_ ps v.sp hv.sp (c_ v) hv.fl) h λ_ w h=>?_);exact au.aH rfl (h.nC p pb pd ps x {v with sp:=oz v.sp (c_ v)}).bq
    ·have c2:¬c_ v<v.md.cO:=cd c2;rw[aw c2];exact au.aH rfl (h.nC p pb pd ps x v).bq
   ·have c1:¬((bD v.bd.1).2=false∧bW v.bf-bN v.bf=0):=λe=>by have:=hy.2 e;rw[c]at this;cases this
    refine aS h (λ_=>ah n8 (Ks.mk eH (GQ v.md))^ah p (sL v pb pd ps x.1)^ah pb (Ks.mk qX v.bf)^kT pd v.bd^ah ps (Ks.mk nO v.sp)^xm x v.md) (λy:Bool=>y=true↔¬(c_ v<v.md.cO∧v.out<io v.md.aY (bu v) v.cap)) (λ(y:Bool) w hy h=>?_) ?_
    ·refine ae (λc=>?_) λc=>?_
     ·have e:dW v=(5,v):=(by unfold dW;rw[aw c1,aF (hy.1 c)]);rw[e];exact au.aH rfl (h.nC p pb pd ps x v).bq
     ·have c2:¬¬(c_ v<v.md.cO∧v.out<io v.md.aY (bu v) v.cap):=λe=>by have:=hy.2 e;rw[c]at this;cases this
      refine ae (λc3=>?_) λc3=>?_
      ·have c3:(bD v.bd.1).2=false:=(by simpa using c3);refine ac (aj h rfl (aI (LJ pd v.bd) h λw h=>?_));refine ae (λc4=>?_) λc4=>?_
       ·have c4:(v.bd.1.length:Int)≥4096:=bZ c4;have e:dW v=(5,v):=(by unfold dW;rw[aw c1,aw c2,aF ⟨c3,c4⟩]);rw[e];exact au.aH rfl (h.nC p pb pd ps x v).bq
       ·have c4:¬(v.bd.1.length:Int)≥4096:=cd c4;have e:dW v=(0,v):=(by unfold dW;rw[aw c1,aw c2,aw (λe=>c4 e.2)]);rw[e];exact au.aH rfl (h.nC p pb pd ps x v).bq
      ·have c3:(bD v.bd.1).2=true:=(by simpa using c3);have e:dW v=(0,v):=(by unfold dW;rw[aw c1,aw c2,aw (λe=>by rw[c3]at e;cases e.1)]);rw[e];exact au.aH rfl (h.nC p pb pd ps x v).bq
    ·refine aM h λw h=>ae (λc=>?_) λc=>?_
     ·have c:¬c_ v<v.md.cO:=cS;exact⟨⟨λ_ e=>c e.1,λ_=>rfl⟩,h⟩
     ·have c:c_ v<v.md.cO:=cS;refine ac (aj (x:=v.md.aY) h rfl (ac (aj h rfl (aj h rfl (aI (AQ p pb pd ps x v hv.md) h λw h=>?_)))));refine aN h rfl (aN h rfl (aN h rfl (aI (JA v.md.aY (bu v) v.cap hv.md.aY ⟨by unfold bu;omega,hts.2⟩ hv.cap) h λw h=>?_)));refine aN h rfl (aI (ga.nT v.out (io v.md.aY (bu v) v.cap)) h λw h=>?_);refine⟨?_,h.aK⟩;show(!decide (v.out<io v.md.aY (bu v) v.cap))=true↔_;simp[c]
end lL

namespace oo
open bK bp ik fg gT fQ eX ga eC fe lL
abbrev KS:Ks:=[.int .i64,.int .u64,.int .i64,.int .u64,.bool]
abbrev zS:List Lf:=[aJ 0,aC 0,aJ 0,aC 0,a_ false]
def VQ(p n1 n14:Nat)(o:Int)(ag:Bool)(R:Rs.T [.agg KS,.lf (.int .i64)]→WP):WP:=
 bQ<|
 az (some ⟨p,0⟩) λq27=>
 ld [.int .u64] ⟨n14,0⟩ λ(x28:Int)=>
 ld [.int .u64] ⟨n14,1⟩ λ(x29:Int)=>
 ld [.int .u64] ⟨n14,0⟩ λ(x30:Int)=>
 az (some ⟨p,0⟩) λq31=>
 ld [.int .i64] q27 λ(x32:Int)=>
 ld [.int .u64] ⟨q31.b,q31.o+8⟩ λ(x33:Int)=>
 new [aJ (0:Int),aC (0:Int),aJ (0:Int),aC (0:Int),a_ false] λn34=>
 cw ⟨q31.b,q31.o+8⟩ (Ks.mk [.int .u64] x33)<|
 cw q27 (Ks.mk [.int .i64] x32)<|
 cw ⟨n14,0⟩ (Ks.mk [.int .u64] x30)<|
 cw ⟨n14,1⟩ (Ks.mk [.int .u64] x29)<|
 cw ⟨n14,0⟩ (Ks.mk [.int .u64] x28)<|
 st ⟨n34,0⟩ [aJ x32,aC x28,aJ (i64.wrap (u64.wrap (x29-x30))),aC (if x33>o then x33 else o),a_ ag]<|
 bQ<|
 ld [.int .u64] ⟨n34,3⟩ λ(x35:Int)=>
 ld [.int .i64] ⟨n34,2⟩ λ(x36:Int)=>
 az (some ⟨p,0⟩) λq37=>
 ld [.ptr] ⟨q37.b,q37.o+6⟩ λ(x38:bO)=>
 call Tryz.prog va [.lf (.ptr x38)] [.agg eH] λ(r39:gd)=>
 cw ⟨n34,2⟩ (Ks.mk [.int .i64] x36)<|
 cw ⟨n34,3⟩ (Ks.mk [.int .u64] x35)<|
 call Tryz.prog Ga [.lf (.int .i64 x36),.lf (.int .u64 r39.2.2.1)] [.lf (.int .u64)] λ(r40:Int)=>
 cw ⟨n34,3⟩ (Ks.mk [.int .u64] x35)<|
 call Tryz.prog Jo [.lf (.int .u64 x35),.lf (.int .u64 r40)] [.lf (.int .u64)] λ(r41:Int)=>
 az (some ⟨p,0⟩) λq42=>
 st ⟨q42.b,q42.o+8⟩ [aC r41]<|
 bQ<|
 az (some ⟨p,0⟩) λq43=>
 ld [.int .i64] ⟨n34,2⟩ λ(x44:Int)=>
 ld [.int .u64] ⟨q43.b,q43.o+7⟩ λ(x45:Int)=>
 az (some ⟨p,0⟩) λq46=>
 st ⟨q46.b,q46.o+7⟩ [aC (u64.wrap (x45+(u64.wrap x44)))]<|
 ld KS ⟨n34,0⟩ λ(x47:Ks.T KS)=>
 st ⟨n1,0⟩ (Ks.mk KS x47)<|
 ld KS ⟨n1,0⟩ λ(x48:Ks.T KS)=>
 R (x48,(0:Int))
theorem Ti{w0 w:World}{S0 R0:Nat→Prop}{G:SP}{R:Rs.T [.agg KS,.lf (.int .i64)]→WP}{p n1 n14 pb pd ps:Nat}{x:N7}{v:Sk}{af a b:Int}{ag:Bool}(hm:gp v.md)(hn:U af)(hnx:U v.nx)(hab:0≤b-a∧b-a≤65536)(ho:0≤v.out∧v.out+65536<18446744073709551616)
  (h:au w0 S0 R0 w (ah n1 zS^ah n14 [aC a,aC b]^(ah p (sL v pb pd ps x.1)^ah pb (Ks.mk qX v.bf)^kT pd v.bd^ah ps (Ks.mk nO v.sp)^xm x v.md)^G))
  (k:∀w',au w0 S0 R0 w' (mP p (lr v (a,b) ag af).2^G)→R ((lr v (a,b) ag af).1,0) w'):VQ p n1 n14 af ag R w:=by
 unfold VQ;have e1:u64.wrap (b-a)=b-a:=iy;have e2:i64.wrap (b-a)=b-a:=fu;have hst:U (if v.nx>af then v.nx else af):=by split;exact hnx;exact hn
 have hD:U (dZ (b-a) v.md.aY):=oU (by omega) hm.aY;refine aM h λw h=>ac (aj h rfl (aj h rfl (aj h rfl (ac (aj h rfl (aj h rfl (aD h λn34 w h=>?_)))))));refine aN h rfl (aN h rfl (aN h rfl (aN h rfl (aN h rfl ?_))));rw[e1,e2];refine aA h (by rfl) λw h=>aM h λw h=>aj h rfl (aj h rfl (ac (aj h rfl (aI (yz x v.md) h λw h=>?_))));refine aN h rfl (aN h rfl (aI (w9 (b-a) v.md.aY (by omega) hm.aY) h λw h=>?_));refine aN h rfl (aI (e_ _ _ hst hD) h λw h=>?_);refine ac (aB h p (sL {v with nx:=bH (if v.nx>af then v.nx else af) (dZ (b-a) v.md.aY)} pb pd ps x.1) rfl rfl rfl λw h=>?_);have e3:u64.wrap (v.out+u64.wrap (b-a))=v.out+(b-a):=by rw[e1];exact iy
 refine aM h λw h=>ac (aj h rfl (aj (x:=v.out) h rfl (ac ?_)));rw[e3];refine aB h p (sL {v with nx:=bH (if v.nx>af then v.nx else af) (dZ (b-a) v.md.aY),out:=v.out+(b-a)} pb pd ps x.1) rfl rfl rfl λw h=>?_;refine ay (b:=n34) (x:=(lr v (a,b) ag af).1) h rfl (aA h (by rfl) λw h=>ay (b:=n1) (x:=(lr v (a,b) ag af).1) h rfl ?_);have h2:au w0 S0 R0 w (mP p {v with nx:=bH (if v.nx>af then v.nx else af) (dZ (b-a) v.md.aY),out:=v.out+(b-a)}^G):=(h.nC p pb pd ps x {v with nx:=bH (if v.nx>af then v.nx else af) (dZ (b-a) v.md.aY),out:=v.out+(b-a)}).aK;exact k w h2
end oo

namespace pW
open bK bp ik fg gT fQ eX ga eC fe lL oo
abbrev KR:Ks:=[.int .u64,.int .u64]
theorem nq(h:A w)(k:B w):both A B w:=⟨h,k⟩
def OU(p n1 n9 n14:Nat)(o:Int)(ag:Bool)(R:Rs.T [.agg KS,.lf (.int .i64)]→WP):WP:=
 join [] (λJ15=>
 ar (!ag) (
 bQ<|
 az (some ⟨p,0⟩) λq17=>
 ld [.ptr] ⟨q17.b,q17.o+3⟩ λ(x18:bO)=>
 call Tryz.prog ye [.lf (.ptr (some ⟨p,0⟩))] [.lf (.int .i64)] λ(r19:Int)=>
 cw ⟨q17.b,q17.o+3⟩ (Ks.mk [.ptr] x18)<|
 call Tryz.prog rI [.lf (.ptr x18),.lf (.int .i64 r19)] [.agg [.int .u64,.int .u64],.lf .bool] λ(r20:(Int×Int)×Bool)=>
 st ⟨n14,0⟩ (Ks.mk [.int .u64,.int .u64] r20.1)<|
 bQ<|
 ld cy ⟨n9,0⟩ λ(x21:pZ)=>
 az (some ⟨p,0⟩) λq22=>
 ld [.int .u64] ⟨n14,0⟩ λ(x23:Int)=>
 ld [.int .u64] ⟨n14,1⟩ λ(x24:Int)=>
 ld [.ptr] ⟨q22.b,q22.o+4⟩ λ(x25:bO)=>
 call Tryz.prog tY [.lf (.ptr x25),.lf (.int .u64 x23),.lf (.int .u64 x24),.agg (Ks.mk cy x21)] [.lf (.int .i64)] λ(r26:Int)=>
 J15 ())<|
 J15 ()) λ(y16:Unit)=>VQ p n1 n14 o ag R
def Tx(p n1 n9:Nat)(o:Int)(R:Rs.T [.agg KS,.lf (.int .i64)]→WP):WP:=
 bQ<|
 ld cy ⟨n9,0⟩ λ(x10:pZ)=>
 az (some ⟨p,0⟩) λq11=>
 ld [.ptr] ⟨q11.b,q11.o+4⟩ λ(x12:bO)=>
 both (
 call Tryz.prog ns [.lf (.ptr x12),.agg (Ks.mk cy x10)] [.agg [.int .u64,.int .u64],.lf .bool] λ(r13:(Int×Int)×Bool)=>
 new [aC (0:Int),aC (0:Int)] λn14=>
 cw ⟨q11.b,q11.o+4⟩ (Ks.mk [.ptr] x12)<|
 cw ⟨n9,0⟩ (Ks.mk cy x10)<|
 st ⟨n14,0⟩ (Ks.mk [.int .u64,.int .u64] r13.1)<|
 OU p n1 n9 n14 o r13.2 R)<|
 new [aC (0:Int),aC (0:Int)] λn49=>
 cw ⟨q11.b,q11.o+4⟩ (Ks.mk [.ptr] x12)<|
 cw ⟨n9,0⟩ (Ks.mk cy x10)<|
 call Tryz.prog ns [.lf (.ptr x12),.agg (Ks.mk cy x10)] [.agg [.int .u64,.int .u64],.lf .bool] λ(r50:(Int×Int)×Bool)=>
 st ⟨n49,0⟩ (Ks.mk [.int .u64,.int .u64] r50.1)<|
 OU p n1 n9 n49 o r50.2 R
theorem FX(hb:rN b){m:Int}(hm:m≤65536):0≤(ly b m).1.1.2-(ly b m).1.1.1∧(ly b m).1.1.2-(ly b m).1.1.1≤65536:=by
 have:=hb.nw;unfold ly;split
 ·show 0≤bN b+min (bW b-bN b) m-bN b∧bN b+min (bW b-bN b) m-bN b≤65536;omega
 ·show(0:Int)≤0-0∧(0:Int)-0≤65536;omega
theorem Tj{w0 w:World}{S0 R0:Nat→Prop}{G:SP}{R:Rs.T [.agg KS,.lf (.int .i64)]→WP}{p n1 n9 n14 pb pd ps:Nat}{x:N7}{v:Sk}{af a b:Int}{sn:Pw}{ag:Bool}(hbf:rN v.bf)(hm:gp v.md)(hn:U af)(hnx:U v.nx)(hab:ag=true→0≤b-a∧b-a≤65536)(ho:0≤v.out∧v.out+65536<18446744073709551616)
  (h:au w0 S0 R0 w (ah n1 zS^ah n9 (Ks.mk cy sn)^ah n14 [aC a,aC b]^(ah p (sL v pb pd ps x.1)^ah pb (Ks.mk qX v.bf)^kT pd v.bd^ah ps (Ks.mk nO v.sp)^xm x v.md)^G))
  (k1:ag=true→∀w',au w0 S0 R0 w' (mP p (lr v (a,b) true af).2^G)→R ((lr v (a,b) true af).1,0) w')
  (k2:ag=false→∀w',au w0 S0 R0 w' (mP p (lr {v with bf:=(ly v.bf (bu v)).2,bd:=(dP v.bd (ly v.bf (bu v)).1.1.1 (ly v.bf (bu v)).1.1.2 sn).2} (ly v.bf (bu v)).1.1 false af).2^G)→R ((lr {v with bf:=(ly v.bf (bu v)).2,bd:=(dP v.bd (ly v.bf (bu v)).1.1.1 (ly v.bf (bu v)).1.1.2 sn).2} (ly v.bf (bu v)).1.1 false af).1,0) w'):OU p n1 n9 n14 af ag R w:=by
 have hts:=sM v.md.aY v.bs hm.aY.1;unfold OU;cases ag with
 |true=>
  refine aS h (λ_=>ah n1 zS^ah n9 (Ks.mk cy sn)^ah n14 [aC a,aC b]^(ah p (sL v pb pd ps x.1)^ah pb (Ks.mk qX v.bf)^kT pd v.bd^ah ps (Ks.mk nO v.sp)^xm x v.md)^G) (λ_=>True) (λ_ w _ h=>?_) ?_
  ·exact Ti (G:=G) (pb:=pb) (pd:=pd) (ps:=ps) (x:=x) hm hn hnx (hab rfl) ho h.aK (k1 rfl)
  ·exact ae (λc=>by cases c) λ_=>⟨trivial,h⟩
 |false=>
  refine aS h (λ_=>ah n1 zS^ah n14 (Ks.mk KR (ly v.bf (bu v)).1.1)^(ah p (sL v pb pd ps x.1)^ah pb (Ks.mk qX (ly v.bf (bu v)).2)^kT pd (dP v.bd (ly v.bf (bu v)).1.1.1 (ly v.bf (bu v)).1.1.2 sn).2^ah ps (Ks.mk nO v.sp)^xm x v.md)^G) (λ_=>True) (λ_ w _ h=>?_) ?_
  ·exact Ti (G:=G) (v:={v with bf:=(ly v.bf (bu v)).2,bd:=(dP v.bd (ly v.bf (bu v)).1.1.1 (ly v.bf (bu v)).1.1.2 sn).2}) hm hn hnx (FX hbf hts.2) ho h (k2 rfl)
  ·refine ae (λ_=>?_) λc=>by cases c
   refine aM h λw h=>ac (aj h rfl (aI (AQ p pb pd ps x v hm) h λw h=>?_));refine aN h rfl (aI (JC pb v.bf hbf (bu v) (by unfold bu;omega)) h λw h=>?_);refine aA h (by rfl) λw h=>aM h λw h=>ay (b:=n9) (x:=sn) h rfl (ac (aj h rfl (aj h rfl (aj h rfl (aq (fg.sG pd _ _ sn v.bd) h λr w h=>?_)))));obtain⟨hr,h⟩:=h.aP;exact⟨trivial,h.aK⟩
def PG(v:Sk)(sn:Pw)(af:Int):Sg×Sk:=
 if(bD v.bd.1).2 then lr {v with bd:=(dJ v.bd.1 sn,v.bd.2)} (bD v.bd.1).1 true af
 else lr {v with bf:=(ly v.bf (bu v)).2,bd:=(dP v.bd (ly v.bf (bu v)).1.1.1 (ly v.bf (bu v)).1.1.2 sn).2} (ly v.bf (bu v)).1.1 false af
theorem QZ(v)(af:Int):uW v af=PG (eJ v af) (jJ v.sp af (c_ v)).1 af:=rfl
theorem LB(s)(h:(bD l).2=false):dJ l s=l:=by
 unfold bD at h;unfold dJ;split at h
 ·split at h
  ·rename_i hc;exact aF hc
  ·cases h
 ·rfl
theorem YM{w0 w:World}{S0 R0:Nat→Prop}{G:SP}{R:Rs.T [.agg KS,.lf (.int .i64)]→WP}{p n1 n9 pb pd ps:Nat}{x:N7}{v:Sk}{af:Int}{sn:Pw}(hbf:rN v.bf)(hbl:v.bd.1.length≤4294967296)(hm:gp v.md)(hn:U af)(hnx:U v.nx)(hab:(bD v.bd.1).2=true→0≤(bD v.bd.1).1.2-(bD v.bd.1).1.1∧(bD v.bd.1).1.2-(bD v.bd.1).1.1≤65536)(ho:0≤v.out∧v.out+65536<18446744073709551616)
  (h:au w0 S0 R0 w (ah n1 zS^ah n9 (Ks.mk cy sn)^(ah p (sL v pb pd ps x.1)^ah pb (Ks.mk qX v.bf)^kT pd v.bd^ah ps (Ks.mk nO v.sp)^xm x v.md)^G))
  (k:∀w',au w0 S0 R0 w' (mP p (PG v sn af).2^G)→R ((PG v sn af).1,0) w'):Tx p n1 n9 af R w:=by
 have t1:∀{w:World} {n14:Nat},au w0 S0 R0 w (ah n1 zS^ah n9 (Ks.mk cy sn)^ah n14 (Ks.mk KR (bD v.bd.1).1)^(ah p (sL v pb pd ps x.1)^ah pb (Ks.mk qX v.bf)^kT pd (dJ v.bd.1 sn,v.bd.2)^ah ps (Ks.mk nO v.sp)^xm x v.md)^G)→OU p n1 n9 n14 af (bD v.bd.1).2 R w:=by
  intro w n14 h;cases hl:(bD v.bd.1).2 with
  |true=>
   have e:PG v sn af=lr {v with bd:=(dJ v.bd.1 sn,v.bd.2)} (bD v.bd.1).1 true af:=(by unfold PG;rw[aF hl]);rw[e]at k;exact Tj (G:=G) (v:={v with bd:=(dJ v.bd.1 sn,v.bd.2)}) (pb:=pb) (pd:=pd) (ps:=ps) (x:=x) (sn:=sn) hbf hm hn hnx (λ_=>hab hl) ho h (λ_=>k) (λc=>by cases c)
  |false=>
   have e:PG v sn af=lr {v with bf:=(ly v.bf (bu v)).2,bd:=(dP v.bd (ly v.bf (bu v)).1.1.1 (ly v.bf (bu v)).1.1.2 sn).2} (ly v.bf (bu v)).1.1 false af:=(by unfold PG;rw[aw (by rw[hl];intro c;cases c)]);rw[e]at k;rw[LB sn hl]at h;exact Tj (G:=G) (v:=v) (pb:=pb) (pd:=pd) (ps:=ps) (x:=x) (sn:=sn) hbf hm hn hnx (λc=>by cases c) ho h (λc=>by cases c) (λ_=>k)
 unfold Tx;refine aM h λw h=>ay (b:=n9) (x:=sn) h rfl (ac (aj h rfl (nq ?_ ?_)))
 ·refine aI (Bt pd sn v.bd hbl) h λw h=>?_;refine aD h λn14 w h=>aN h rfl (aO (b:=n9) h (aA h (by rfl) λw h=>?_));exact t1 h.aK
 ·refine aD h λn14 w h=>aN h rfl (aO (b:=n9) h (aI (Bt pd sn v.bd hbl) h λw h=>?_));refine aA h (by rfl) λw h=>?_;exact t1 h.aK
end pW

namespace pX
open bK bp ik fg gT fQ eX ga eC fe lL oo pW
def rn(l:List Pc):Prop:=(bD l).2=true→0≤(bD l).1.2-(bD l).1.1∧(bD l).1.2-(bD l).1.1≤65536
theorem LH(aY tso most:Int)(hr:U aY)(ht:tso≤65536):io aY tso most≤18014398509481984:=by
 unfold U at hr;unfold io jF;split<;>split<;>omega
theorem C2(hr:U v.md.aY)(h:(dW v).1=0):v.out<18014398509481984∧(dW v).2=v:=by
 have hb:=LH v.md.aY (bu v) v.cap hr (sM v.md.aY v.bs hr.1).2;unfold dW at h⊢;by_cases c1:(bD v.bd.1).2=false∧bW v.bf-bN v.bf=0
 ·rw[aF c1]at h;cases h
 ·rw[aw c1]at h⊢;by_cases c2:¬(c_ v<v.md.cO∧v.out<io v.md.aY (bu v) v.cap)
  ·rw[aF c2]at h;cases h
  ·rw[aw c2]at h⊢;have c2:=Ad.1 c2;refine⟨by omega,?_⟩;split<;>rfl
theorem My(p v)(hv:pR v)(hL:rn v.bd.1)(af:Int)(hn:U af):bx (TS (some ⟨p,0⟩) af) (mP p v) (λr=>br (r=(cm v af).1) (mP p (cm v af).2)):=
 bF λw0 S R h=>by
  have hbl:v.bd.1.length≤4294967296:=by have:=hv.bl;omega
  refine aD h λn1 w h=>ae (λc=>(by simp at c)) λ_=>aI (lL.nT p v hv) h λw h=>?_;refine ae (λc=>?_) λc=>?_
  ·have c:(dW v).1≠0:=cS;have e:cm v af=((Ro,(dW v).1),(dW v).2):=(by unfold cm;rw[aF c]);rw[e];refine aA h (by rfl) λw h=>ay (b:=n1) (x:=Ro) h rfl ?_;have h:au w0 S R w (mP p (dW v).2^ah n1 zS):=h.aK;exact au.aH rfl h.bq
  ·have c:(dW v).1=0:=cS;have e:cm v af=(((uW v af).1,0),(uW v af).2):=(by unfold cm;rw[aw (by rw[c];exact λe=>e rfl)]);obtain⟨ho,e2⟩:=C2 hv.md.aY c;rw[e2]at h;rw[e,QZ];have ho2:0≤v.out∧v.out+65536<18446744073709551616:=⟨hv.out.1,by omega⟩;have t1:∀{w:World} {n9 pb pd ps:Nat} {x:N7},au w0 S R w (ah n1 zS^ah n9 (Ks.mk cy (jJ v.sp af (c_ v)).1)^(ah p (sL v pb pd ps x.1)^ah pb (Ks.mk qX v.bf)^kT pd v.bd^ah ps (Ks.mk nO (jJ v.sp af (c_ v)).2)^xm x v.md)^bg)→Tx p n1 n9 af (λr w=>au w0 S R w (br (r=((PG (eJ v af) (jJ v.sp af (c_ v)).1 af).1,0)) (mP p (PG (eJ v af) (jJ v.sp af (c_ v)).1 af).2))) w:=by
    intro w n9 pb pd ps x h;exact YM (G:=bg) (v:=eJ v af) (pb:=pb) (pd:=pd) (ps:=ps) (x:=x) (sn:=(jJ v.sp af (c_ v)).1) hv.bf hbl hv.md hn hv.nx hL ho2 h (λw h=>au.aH rfl h.bq)
   obtain⟨pb,pd,ps,x,h⟩:=(h.le (aG _)).mP p;refine aM h λw h=>ac (aj h rfl (nq ?_ ?_))
   ·refine aI (mY p pb pd ps x v hbl) h λw h=>?_;refine aN h rfl (nq ?_ ?_)
    ·refine aI (ga.sG ps v.sp af (c_ v)) h λw h=>?_;refine aD h λn9 w h=>aN h rfl (aA h (by rfl) λw h=>?_);exact t1 (pb:=pb) (pd:=pd) (ps:=ps) (x:=x) h.aK
    ·refine aD h λn9 w h=>aN h rfl (aI (ga.sG ps v.sp af (c_ v)) h λw h=>?_);refine aA h (by rfl) λw h=>?_;exact t1 (pb:=pb) (pd:=pd) (ps:=ps) (x:=x) h.aK
   ·refine aD h λn9 w h=>aN h rfl (aI (mY p pb pd ps x v hbl) h λw h=>?_);refine aN h rfl (aI (ga.sG ps v.sp af (c_ v)) h λw h=>?_);refine aA h (by rfl) λw h=>?_;exact t1 (pb:=pb) (pd:=pd) (ps:=ps) (x:=x) h.aK
end pX

namespace mS
open bK bp eX ga
def PI(s:Sp)(sn:Sn):Bool:=!pH s||decide (sn.2.1≥oN s)
def yh(s:Sp)(af n:Int)(sn:Sn):Sp:=
 if PI s sn then(bH (pD s) n,af,sn.1,(if bH (pD s) n>pL s then 0 else pL s),true,bH (pG s) n,sn.2.1,sn.2.2.1,sn.2.2.2.2,dV sn.1 sn.2.2.2.1,dV af sn.1)
 else(bH (pD s) n,af,pF s,(if bH (pD s) n>pL s then 0 else pL s),true,bH (pG s) n,oN s,nH s,od s,m_ s,nG s)
structure Ef(s:Sn):Prop where
 a:U s.1
 b:U s.2.1
 c:U s.2.2.1
 d:U s.2.2.2.1
theorem Js(p:Nat)(s:Sp)(hs:pS s)(af n:Int)(hn:U af)(hU:U n)(sn:Sn)(hsn:Ef sn):bx (Uf (some ⟨p,0⟩) af n sn) (ah p (Ks.mk nO s)) (λ_=>ah p (Ks.mk nO (yh s af n sn))):=
 bF λw0 S R h=>by
  refine aD h λn1 w h=>ae (λc=>(by simp at c)) λ_=>?_;refine ac (aj h rfl (aI (e_ (pD s) n hs.d hU) h λw h=>?_));obtain⟨l2,hl2⟩:∃l2,l2=if bH (pD s) n>pL s then 0 else pL s:=⟨_,rfl⟩
  refine ac (aB h p (Ks.mk nO (bH (pD s) n,pT s,pF s,pL s,pH s,pG s,oN s,nH s,od s,m_ s,nG s)) rfl rfl rfl λw h=>?_);refine ac (aB h p (Ks.mk nO (bH (pD s) n,af,pF s,pL s,pH s,pG s,oN s,nH s,od s,m_ s,nG s)) rfl rfl rfl λw h=>?_);refine aS h (λ_=>ah n1 (Ks.mk Zo sn)^ah p (Ks.mk nO (bH (pD s) n,af,pF s,l2,pH s,pG s,oN s,nH s,od s,m_ s,nG s))) (λ_=>True) (λ_ w _ h=>?_) ?_;rotate_left
  ·refine aM h λw h=>ac (ac (aj h rfl (aj h rfl (ae (λc=>?_) λc=>?_))))
   ·have c:bH (pD s) n>pL s:=bZ c;rw[aF c]at hl2;rw[hl2];refine ac (aB h p (Ks.mk nO (bH (pD s) n,af,pF s,0,pH s,pG s,oN s,nH s,od s,m_ s,nG s)) rfl rfl rfl λw h=>?_);exact⟨trivial,h.aK⟩
   ·have c:¬bH (pD s) n>pL s:=cd c;rw[aw c]at hl2;rw[hl2];exact⟨trivial,h.aK⟩
  ·refine ac (aj h rfl (aI (e_ (pG s) n hs.g hU) h λw h=>?_));refine ac (aB h p (Ks.mk nO (bH (pD s) n,af,pF s,l2,pH s,bH (pG s) n,oN s,nH s,od s,m_ s,nG s)) rfl rfl rfl λw h=>?_);obtain⟨e,he⟩:∃e:Sp,e=yh s af n sn:=⟨_,rfl⟩;refine aS h (λ_=>ah n1 (Ks.mk Zo sn)^ah p (Ks.mk nO (pD e,pT e,pF e,pL e,pH s,pG e,oN e,nH e,od e,m_ e,nG e))) (λ_=>True) (λ_ w _ h=>?_) ?_
   ·refine ac (aB h p (Ks.mk nO (pD e,pT e,pF e,pL e,true,pG e,oN e,nH e,od e,m_ e,nG e)) rfl rfl rfl λw h=>?_);have e2:yh s af n sn=(pD e,pT e,pF e,pL e,true,pG e,oN e,nH e,od e,m_ e,nG e):=by rw[he];unfold yh;split<;>rfl
    rw[e2];exact h.aK
   ·refine aS h (λ_=>ah n1 (Ks.mk Zo sn)^ah p (Ks.mk nO (bH (pD s) n,af,pF s,l2,pH s,bH (pG s) n,oN s,nH s,od s,m_ s,nG s))) (λy:Bool=>y=PI s sn) (λ(y:Bool) w hy h=>?_) ?_
    ·rw[hy];refine ae (λc=>?_) λc=>?_
     ·have e2:e=(bH (pD s) n,af,sn.1,l2,true,bH (pG s) n,sn.2.1,sn.2.2.1,sn.2.2.2.2,dV sn.1 sn.2.2.2.1,dV af sn.1):=(by rw[he,hl2];unfold yh;rw[aF c]);rw[e2];refine aM h λw h=>aj h rfl (aj h rfl (aj h rfl ?_));refine ac (aB h p (Ks.mk nO (bH (pD s) n,af,pF s,l2,pH s,bH (pG s) n,sn.2.1,nH s,od s,m_ s,nG s)) rfl rfl rfl λw h=>?_);refine aN h rfl (aN h rfl ?_);refine ac (aB h p (Ks.mk nO (bH (pD s) n,af,pF s,l2,pH s,bH (pG s) n,sn.2.1,sn.2.2.1,od s,m_ s,nG s)) rfl rfl rfl λw h=>?_);refine aN h rfl ?_;refine ac (aB h p (Ks.mk nO (bH (pD s) n,af,pF s,l2,pH s,bH (pG s) n,sn.2.1,sn.2.2.1,sn.2.2.2.2,m_ s,nG s)) rfl rfl rfl λw h=>?_);refine aM h λw h=>aj h rfl (aj h rfl (aj h rfl (aI (jk sn.1 sn.2.2.2.1 hsn.a hsn.d) h λw h=>?_)));refine aN h rfl (aI (jk af sn.1 hn hsn.a) h λw h=>?_);refine ac (aB h p (Ks.mk nO (bH (pD s) n,af,pF s,l2,pH s,bH (pG s) n,sn.2.1,sn.2.2.1,sn.2.2.2.2,dV sn.1 sn.2.2.2.1,nG s)) rfl rfl rfl λw h=>?_);refine ac (aB h p (Ks.mk nO (bH (pD s) n,af,pF s,l2,pH s,bH (pG s) n,sn.2.1,sn.2.2.1,sn.2.2.2.2,dV sn.1 sn.2.2.2.1,dV af sn.1)) rfl rfl rfl λw h=>?_);refine aj h rfl ?_;refine ac (aB h p (Ks.mk nO (bH (pD s) n,af,sn.1,l2,pH s,bH (pG s) n,sn.2.1,sn.2.2.1,sn.2.2.2.2,dV sn.1 sn.2.2.2.1,dV af sn.1)) rfl rfl rfl λw h=>?_);exact⟨trivial,h.aK⟩
     ·have e2:e=(bH (pD s) n,af,pF s,l2,true,bH (pG s) n,oN s,nH s,od s,m_ s,nG s):=(by rw[he,hl2];unfold yh;rw[aw (by rw[c];intro c;cases c)]);rw[e2];exact⟨trivial,h.aK⟩
    ·refine aM h λw h=>ac (aj h rfl (ae (λc=>?_) λc=>?_))
     ·have c:pH s=false:=cS;exact⟨by unfold PI;rw[c];rfl,h.aK⟩
     ·have c:pH s=true:=cS;refine aj h rfl (ac (aj h rfl ?_));exact⟨by unfold PI;rw[c];rfl,h.aK⟩
end mS

namespace vc
open bK bp eX ga mS
abbrev zSa:List Lf:=[aC 0,aC 0,aC 0,aC 0,aC 0,aC 0,aC 0,aC 0,a_ false]
theorem OY(p s)(hs:pS s)(af bn flight:Int)(hn:U af):bx (UN (some ⟨p,0⟩) af bn flight) (ah p (Ks.mk nO s)) (λr=>br (r=(gh s af bn flight).1) (ah p (Ks.mk nO (gh s af bn flight).2))):=
 bF λw0 S R h=>by
  refine aD h λn1 w h=>ae (λc=>(by simp at c)) λ_=>ac (aj (x:=pD s) h rfl (aD h λn5 w h=>aA h (by rfl) λw h=>?_));obtain⟨e,he⟩:∃e,e=(gh s af bn flight).1:=⟨_,rfl⟩;refine aS h (λ_=>ah n1 zSa^ah p (Ks.mk nO s)^ah n5 (Ks.mk Ts e)) (λ_=>True) (λ_ w _ h=>?_) ?_
  ·refine ac (aB h p (Ks.mk nO (pD s,pT s,pF s,pL s,false,0,0,0,false,0,0)) rfl rfl rfl λw h=>ay (b:=n5) (x:=e) h rfl (aA h (by rfl) λw h=>ay (b:=n1) (x:=e) h rfl ?_));rw[←he,show(gh s af bn flight).2=(pD s,pT s,pF s,pL s,false,0,0,0,false,0,0)from rfl];have h:au w0 S R w (ah p (Ks.mk nO (pD s,pT s,pF s,pL s,false,0,0,0,false,0,0))^ah n5 (Ks.mk Ts e)):=h.aK;exact au.aH rfl h.bq
  ·refine ac (aj (x:=(pH s,pG s,oN s,nH s,od s,m_ s,nG s)) h rfl (aD h λn10 w h=>aA h (by rfl) λw h=>aj (x:=pH s) h rfl (ae (λc=>?_) λc=>?_)))
   ·have e2:e=(af,pD s,oN s,jF (m_ s) (dV af (nH s)),nG s,pG s,bn,flight,od s):=(by rw[he];unfold gh;rw[aF c]);refine aM h λw h=>aj (x:=pG s) h rfl (aj (x:=oN s) h rfl (aj (x:=od s) h rfl (aj (x:=nG s) h rfl ?_)));refine aB h n5 (Ks.mk Ts (af,pD s,0,0,0,pG s,bn,flight,false)) rfl rfl rfl λw h=>?_;refine aN h rfl (aN h rfl (aN h rfl ?_));refine aB h n5 (Ks.mk Ts (af,pD s,oN s,0,0,pG s,bn,flight,false)) rfl rfl rfl λw h=>?_;refine aN h rfl (aN h rfl ?_);refine aB h n5 (Ks.mk Ts (af,pD s,oN s,0,0,pG s,bn,flight,od s)) rfl rfl rfl λw h=>?_;refine aN h rfl ?_;refine aB h n5 (Ks.mk Ts (af,pD s,oN s,0,nG s,pG s,bn,flight,od s)) rfl rfl rfl λw h=>?_;refine aM h λw h=>aj (x:=m_ s) h rfl (aj (x:=nH s) h rfl (aI (jk af (nH s) hn hs.pt) h λw h=>?_));refine aN h rfl (aD h λn19 w h=>?_);have h:=h.ct n19 KU [m_ s,dV af (nH s)] rfl (by simp);have h:au _ _ _ _ (aQ ⟨some ⟨n19,0⟩,2,2⟩ KU [m_ s,dV af (nH s)]^_):=h;refine bR (A:=bg) (Q:=aZ ⟨some ⟨n19,0⟩,2,2⟩ KU [m_ s,dV af (nH s)]) (E2 ⟨some ⟨n19,0⟩,2,2⟩ (m_ s) (dV af (nH s))) h λr w h=>?_;obtain⟨hr,h⟩:=h.aP;rw[hr];rw[e2];refine aB h n5 (Ks.mk Ts (af,pD s,oN s,jF (m_ s) (dV af (nH s)),nG s,pG s,bn,flight,od s)) rfl rfl rfl λw h=>?_;exact⟨trivial,h.aK⟩
   ·have e2:e=(af,pD s,0,0,0,0,bn,flight,false):=(by rw[he];unfold gh;rw[aw (by rw[c];intro c;cases c)]);rw[e2];have h:au w0 S R w (ah n1 zSa^ah p (Ks.mk nO s)^ah n5 [aC af,aC (pD s),aC 0,aC 0,aC 0,aC 0,aC bn,aC flight,a_ false]):=h.aK;exact⟨trivial,h⟩
end vc

namespace oq
open bK bp ik fg gT fQ eX ga eC fe lL oo pW pX mS vc
theorem yH(hs:pS s){af bn flight:Int}(hn:U af)(hl:U bn)(hf:U flight):mN (gh s af bn flight).1:=by
 have h1:=nA hn hs.pt;have h2:=hs.si;have h3:U (jF (m_ s) (dV af (nH s))):=by
  unfold jF;repeat' split
  all_goals first|exact h1|exact h2|exact bh 0
 unfold gh;split
 ·exact⟨hn,hs.d,hs.pd,h3,hs.ai,hs.g,hl,hf⟩
 ·exact⟨hn,hs.d,bh 0,bh 0,bh 0,bh 0,hl,hf⟩
theorem BW(p v)(hv:pR v)(af bn:Int)(hn:U af)(hl:U bn):bx (P7 (some ⟨p,0⟩) af bn) (mP p v) (λ_=>mP p (jX v af bn)):=
 bF λw0 S R h=>by
  have hbl:v.bd.1.length≤4294967296:=by have:=hv.bl;omega
  have hts:=sM v.md.aY v.bs hv.md.aY.1;have ew:u64.wrap (bu v)=bu v:=wu (by unfold bu;omega) (by unfold bu;omega);obtain⟨pb,pd,ps,x,h⟩:=(h.le (aG _)).mP p;refine aM h λw h=>ac (ac (aj h rfl (aj h rfl (aI (mY p pb pd ps x v hbl) h λw h=>?_))));refine aN h rfl (aN h rfl (aI (OY ps v.sp hv.sp af bn (c_ v) hn) h λw h=>?_));refine aN h rfl (aI (AQ p pb pd ps x v hv.md) h λw h=>?_);refine aN h rfl ?_;rw[ew];refine aq (Nn x v.md hv.md (gh v.sp af bn (c_ v)).1 (yH hv.sp hn hl hv.fl) (bu v) ⟨by unfold bu;omega,by unfold bu;omega⟩) h λr w h=>?_;obtain⟨hr,h⟩:=h.aP;rw[show jX v af bn={v with sp:=(gh v.sp af bn (c_ v)).2,md:=pC v.md (gh v.sp af bn (c_ v)).1 (bu v)}from rfl];exact(h.nC p pb pd ps x {v with sp:=(gh v.sp af bn (c_ v)).2,md:=pC v.md (gh v.sp af bn (c_ v)).1 (bu v)}).bq
theorem pR.yl(hv:pR v):pR {v with bd:=(v.bd.1.map fj,v.bd.2)}:=
 {hv with bl:=(by show(v.bd.1.map fj).length≤4096;rw[fy];exact hv.bl),fl:=(by show U (dD (v.bd.1.map fj));rw[Kb];exact bh 0)}
theorem K0(p v)(hv:pR v)(af:Int)(hn:U af):bx (TR (some ⟨p,0⟩) af) (mP p v) (λr=>br (r=0) (mP p (iz v af))):=
 bF λw0 S R h=>by
  have hbl:v.bd.1.length≤4294967296:=by have:=hv.bl;omega
  refine ae (λc=>(by simp at c)) λ_=>?_;obtain⟨pb,pd,ps,x,h⟩:=(h.le (aG _)).mP p;refine ac (aj h rfl (aI (fg.Nb pd v.bd hbl) h λw h=>?_));have h:au w0 S R w (mP p {v with bd:=(v.bd.1.map fj,v.bd.2)}^bg):=(h.nC p pb pd ps x {v with bd:=(v.bd.1.map fj,v.bd.2)}).aK;refine aq (BW p {v with bd:=(v.bd.1.map fj,v.bd.2)} (pR.yl hv) af (dD v.bd.1) hn hv.fl) h λ_ w h=>?_;exact au.aH rfl h.bq
end oq

namespace Bw
open bK bp ik fg gT fQ eX ga eC fe lL oo pW pX mS vc oq
abbrev KCf:Ks:=[.int .i64,.int .i64,.int .i64,.int .i64,.int .u64,.int .u64,.bool,.int .i64,.int .i64]
theorem OV(id:Int)(c):bx (ZY id c) bg (λr=>ex λp:Nat=>br (r=some ⟨p,0⟩) (mP p (iU id c.2.2.2.2.2.2.2.2 c.2.2.2.2.2.2.2.1))):=
 bF λw0 S R h=>by
  obtain⟨m,hm⟩:∃m,m=bm c.2.2.2.2.2.2.2.2:=⟨_,rfl⟩;refine aD h λn1 w h=>aj (x:=c.2.2.2.2.2.2.2.2) h rfl (aM h λw h=>aj (x:=c.2.2.2.2.2.2.2.1) h rfl (aq (eX.y4 1073741824) h λr w h=>?_));obtain⟨pb,h⟩:=h.lS;obtain⟨hr,h⟩:=h.aP;rw[hr];have h:au w0 S R w (ah pb (Ks.mk qX (0,0,0,1073741824))^_):=h;refine aN h rfl (aq fg.ku h λr w h=>?_);obtain⟨pd,h⟩:=h.lS;obtain⟨hr,h⟩:=h.aP;rw[hr];refine aN h rfl (aq ga.ku h λr w h=>?_);obtain⟨ps,h⟩:=h.lS;obtain⟨hr,h⟩:=h.aP;rw[hr];have hr2:100≤bm c.2.2.2.2.2.2.2.2∧bm c.2.2.2.2.2.2.2.2≤9000:=by
   unfold bm;repeat' split
   all_goals omega
  have ew:u64.wrap (if(9000:Int)<(if(100:Int)>c.2.2.2.2.2.2.2.2 then(100:Int)else c.2.2.2.2.2.2.2.2)then(9000:Int)else(if(100:Int)>c.2.2.2.2.2.2.2.2 then(100:Int)else c.2.2.2.2.2.2.2.2))=bm c.2.2.2.2.2.2.2.2:=wu (by unfold bm at hr2;omega) (by unfold bm at hr2;omega);refine aN h rfl ?_;rw[ew];refine aq (Nj (bm c.2.2.2.2.2.2.2.2)) h λr w h=>?_;obtain⟨x,h⟩:=h.lS;obtain⟨hr,h⟩:=h.aP;rw[hr];refine aN h rfl (aD h λn8 w h=>?_);have h:au w0 S R w (ah n8 [aJ id,aJ (bm c.2.2.2.2.2.2.2.2),aJ c.2.2.2.2.2.2.2.1,.ptr (some ⟨pb,0⟩),.ptr (some ⟨pd,0⟩),.ptr (some ⟨ps,0⟩),.ptr (some ⟨x.1,0⟩),aC 0,aC 0]^_):=h;rw[show iU id c.2.2.2.2.2.2.2.2 c.2.2.2.2.2.2.2.1=⟨id,bm c.2.2.2.2.2.2.2.2,c.2.2.2.2.2.2.2.1,(0,0,0,1073741824),([],0),YB,mJ (bm c.2.2.2.2.2.2.2.2),0,0⟩from rfl];exact au.gI n8 (au.aH rfl (h.nC n8 pb pd ps x ⟨id,bm c.2.2.2.2.2.2.2.2,c.2.2.2.2.2.2.2.1,(0,0,0,1073741824),([],0),YB,mJ (bm c.2.2.2.2.2.2.2.2),0,0⟩).bq)
end Bw

namespace ny
open bK bp ik fg gT fQ eX ga eC fe lL oo pW pX mS vc oq
abbrev Ta(q:Pc):Pw:=(q.2.2.1,q.2.2.2.1,q.2.2.2.2.1,q.2.2.2.2.2.1,q.2.2.2.2.2.2.1)
abbrev sH(af:Int)(s:Sp)(q:Pc):Sp:=yh s af (u64.wrap (q.2.1-q.1)) (Ta q)
def rp(af:Int)(s:Sp)(l:List Pc):Sp:=l.foldl (sH af) s
def Co(l:List Pc):Prop:=∀q∈l,Ef (Ta q)
theorem X6(l):U (dD l):=by
 have h:∀(l:List Pc) (n:Int),U n→U (l.foldl uc n):=by
  intro l
  induction l with
  |nil=>intro n h;exact h
  |cons p l ih=>intro n h;exact ih _ (by unfold uc;split;exact ub _;exact h)
 exact h l 0 (bh 0)
theorem zR:∀l:List Pc,U (cI l).2.1
 |[]=>bh 0
 |p::l=>by
  show U (if xg p (cI l).2.2 then u64.wrap ((cI l).2.1+u64.wrap (p.2.1-p.1))else(cI l).2.1);split
  ·exact ub _
  ·exact zR l
theorem I9(hs:pS s){af:Int}(hn:U af)(hq:Ef (Ta q)):pS (sH af s q):=by
 have h1:=oT hs.d (ub (q.2.1-q.1));have h2:=oT hs.g (ub (q.2.1-q.1));have h3:U (if bH (pD s) (u64.wrap (q.2.1-q.1))>pL s then 0 else pL s):=by
  split
  ·exact bh 0
  ·exact hs.l
 unfold sH yh;split
 ·exact⟨h1,hn,hq.a,h3,h2,hq.b,hq.c,nA hq.a hq.d,nA hn hq.a⟩
 ·exact⟨h1,hn,hs.f,h3,h2,hs.pd,hs.pt,hs.si,hs.ai⟩
abbrev LL(v:Sk)(upto:Int)(xs:List (Int×Int)):List Pc×Int:=((cI (eR upto xs v.bd.1)).1,v.bd.2)
def kZ(v:Sk)(af upto:Int)(xs:List (Int×Int)):Sk:={v with bd:=LL v upto xs,bf:=(tD v.bf upto).2,sp:=rp af v.sp (fM upto xs v.bd.1)}
def nP(v:Sk)(af upto:Int)(xs:List (Int×Int)):Int×Sk:=if uC v.bd upto xs then(0,jX (kZ v af upto xs) af (cI (eR upto xs v.bd.1)).2.1)else(11,v)
theorem Cu{af:Int}(hn:U af):∀(l:List Pc) (s:Sp),pS s→Co l→pS (rp af s l)
 |[],_,hs,_=>hs
 |q::l,s,hs,hl=>Cu hn l (sH af s q) (I9 hs hn (hl q (na ..))) (λr hr=>hl r (mz _ hr))
theorem pq{upto:Int}{xs:List (Int×Int)}(h:Co l):Co (fM upto xs l):=λq hq=>h q (tS.1 hq).1
theorem AO(hv:pR v)(hp:Co v.bd.1){af:Int}(hn:U af)(upto:Int)(xs:List (Int×Int)):pR (kZ v af upto xs):=
  {
   hv with
   bf:=rN.ak hv.bf upto
   bl:=(by
     show(cI (eR upto xs v.bd.1)).1.length≤4096;rw[Fh];have:=qy upto xs v.bd.1 v.bd.1.length;rw[sC]at this;exact kH this hv.bl)
   sp:=Cu hn _ _ hv.sp (pq hp)
   fl:=X6 _}
end ny

namespace Lt
open bK bp ik fg gT fQ eX ga eC fe lL oo pW pX mS vc oq ny
abbrev KR:Ks:=[.int .u64,.int .u64]
theorem OJ(p v)(hv:pR v)(hp:Co v.bd.1)(af upto:Int)(hn:U af)(a xs)(hx:xs.length≤4294967296):bx (TQ (some ⟨p,0⟩) af upto a) (mP p v^aZ a KR xs) (λr=>br (r=(nP v af upto xs).1) (mP p (nP v af upto xs).2)):=
 bF λw0 S R h=>by
  have hbl:=hv.bl;refine ae (λc=>(by simp at c)) λ_=>?_;obtain⟨pb,pd,ps,x,h⟩:=h.mP p;cases hm:uC v.bd upto xs with
  |false=>
   have e:nP v af upto xs=(11,v):=(by unfold nP;rw[aw (by rw[hm];intro c;cases c)]);rw[e];refine ac (aj h rfl (bR (Q:=aZ a KR xs) (El pd v.bd upto a xs hx hm) h λr w h=>?_));obtain⟨⟨_,_,h3⟩,h⟩:=h.aP;refine ae (λ_=>?_) λc=>(by rw[h3]at c;cases c);rw[h3];have h:au w0 S R w (mP p v^bg):=(h.nC p pb pd ps x v).aK;exact au.aH rfl h.bq
  |true=>
   have e:nP v af upto xs=(0,jX (kZ v af upto xs) af (cI (eR upto xs v.bd.1)).2.1):=(by unfold nP;rw[aF hm]);rw[e];refine ac (aj h rfl (bR (Q:=aZ a KR xs) (PF pd v.bd upto a xs (by omega) hx hm) h λr w h=>?_));obtain⟨r1,r2,r3⟩:=r;obtain⟨⟨h2,h3⟩,h⟩:=h.aP;dsimp only at h2 h3 h⊢;refine ae (λc=>(by rw[h3]at c;cases c)) λ_=>?_;refine ac (aj h rfl (aq (Gf pb v.bf upto) h λr w h=>?_));obtain⟨_,h⟩:=h.aP;have h:au w0 S R w (aQ r1 aE (fM upto xs v.bd.1)^(ah p (sL v pb pd ps x.1)^ah pb (Ks.mk qX (tD v.bf upto).2)^kT pd (LL v upto xs)^ah ps (Ks.mk nO v.sp)^xm x v.md)^bg):=h.aK;refine fV (λ(y:Sl) (g:List Pc×Sp)=>aQ y aE g.1^(ah p (sL v pb pd ps x.1)^ah pb (Ks.mk qX (tD v.bf upto).2)^kT pd (LL v upto xs)^ah ps (Ks.mk nO g.2)^xm x v.md)^bg) (λ_ g=>pS g.2∧Co g.1∧rp af g.2 g.1=rp af v.sp (fM upto xs v.bd.1)) (λ_ g=>g.1.length) (fM upto xs v.bd.1,v.sp) h ⟨hv.sp,pq hp,rfl⟩ ?_;rintro K (y:Sl) ⟨l,s⟩ w ⟨hs,hl,hE⟩ h k;dsimp only at hs hl hE h⊢;have hy:=(h.rd (s:=y)).2;have hcap:=pg (s:=y) (K:=aE) (xs:=l) h;refine ae (λc=>?_) λc=>?_
   ·have hl0:l=[]:=by
     have c:((y.len:Nat):Int)=0:=cS;cases l with
     |nil=>rfl
     |cons q l=>rw[hy]at c;simp at c;omega
    rw[hl0]at hE;have h:au w0 S R w (mP p (kZ v af upto xs)^bg):=by
     rw[show kZ v af upto xs={v with bd:=LL v upto xs,bf:=(tD v.bf upto).2,sp:=s} by unfold kZ;rw[←hE];rfl];exact(h.nC p pb pd ps x {v with bd:=LL v upto xs,bf:=(tD v.bf upto).2,sp:=s}).aK
    rw[h2];refine aq (BW p (kZ v af upto xs) (AO hv hp hn upto xs) af _ hn (zR _)) h λ_ w h=>?_;exact au.aH rfl h.bq
   ·cases l with
    |nil=>rw[hy]at c;cases c
    |cons q l=>
     have hlen:y.len=l.length+1:=(by rw[hy];rfl);refine bT (s:=y) h (by decide) (by simp) (eE h y 0 (y:=q) rfl rfl (aD h λn12 w h=>aA h (by rfl) λw h=>?_));refine wD (s:=y) h 1 y.len y.cap rfl rfl rfl rfl (by omega) (by rw[hlen];exact eM _) (by omega) (by omega) λs13 _ _ h=>?_;have ht:((q::l).take y.len).drop 1=l:=(by rw[kF (by rw[hlen];exact eM _)];rfl);rw[ht]at h;refine aM h λw h=>ac (aj (x:=q.2.1) h rfl (aj (x:=q.1) h rfl (aj (x:=Ta q) h rfl (aj h rfl ?_))));refine aq (Js ps s hs af (u64.wrap (q.2.1-q.1)) hn (ub _) (Ta q) (hl q (na ..))) h λ_ w h=>?_;exact k s13 (l,sH af s q) w ⟨I9 hs hn (hl q (na ..)),λz hz=>hl z (mz _ hz),hE⟩ h.aK (xw _)
end Lt

namespace pY
open bK bp ik fg gT fQ eX ga eC fe lL oo pW pX mS vc oq ny
structure wP(q:Pc):Prop where
 f:0≤jc q
 ft:jc q<x5 q
 le:x5 q-jc q≤65536
 t:x5 q≤4611686018427387904
 s:Ef (Ta q)
 x:jP q=true→yC q=false
abbrev nv(l:List Pc):Prop:=∀q∈l,wP q
theorem VR(h:lE q=true):yC q=false∧jP q=false:=by
 unfold lE at h;cases h1:yC q<;>cases h2:jP q<;>rw[h1,h2]at h<;>first|exact⟨rfl,rfl⟩|cases h
theorem wP.lo(h:wP q)(hf:lE q=true)(x):wP (iG q x):=⟨h.f,h.ft,h.le,h.t,⟨h.s.a,h.s.b,h.s.c,h.s.d⟩,λ_=>(VR hf).1⟩
theorem wP.yl(h:wP q):wP (fj q):=by
 unfold fj;split
 ·exact h.lo (by assumption) true
 ·exact h
theorem wP.mark(h:wP q)(upto:Int)(xs:List (Int×Int)):wP (pe upto xs q):=by
 unfold pe;split
 ·exact⟨h.f,h.ft,h.le,h.t,⟨h.s.a,h.s.b,h.s.c,h.s.d⟩,λhx=>by cases hx⟩
 ·exact h
theorem wP.again{q:Pc}(h:wP q){s:Pw}(hs:Ef s):wP (mG q s):=⟨h.f,h.ft,h.le,h.t,⟨hs.a,hs.b,hs.c,hs.d⟩,λhx=>by cases hx⟩
theorem Fi(h:nv l):nv (l.map fj):=λq hq=>by
 obtain⟨p,hp,rfl⟩:=ma.1 hq;exact(h p hp).yl
theorem Fj:∀{l:List Pc},nv l→nv (cI l).1
 |[],_=>λq hq=>by cases hq
 |p::l,h=>λq hq=>by
  have h1:=h p (na ..);have h2:=Fj (l:=l) λq hq=>h q (mz _ hq);simp only[cI]at hq;split at hq
  ·rename_i hh;rcases dY.1 hq with rfl|hq
   ·exact h1.lo (by unfold xg at hh;rw[ej]at hh;exact hh.1) true
   ·exact h2 q hq
  ·rcases dY.1 hq with rfl|hq
   ·exact h1
   ·exact h2 q hq
theorem NE(h:nv l)(upto:Int)(xs:List (Int×Int)):nv (eR upto xs l):=λq hq=>by
 obtain⟨p,hp,rfl⟩:=ma.1 hq;exact(h p (tS.1 hp).1).mark upto xs
theorem Km(h:nv l)(hs:Ef s):nv (dJ l s):=λq hq=>by
 unfold dJ at hq;split at hq
 ·rename_i p hp;split at hq
  ·exact h q hq
  ·rcases List.mem_or_eq_of_mem_set hq with hq|rfl
   ·exact h q hq
   ·exact(h p (jr hp)).again hs
 ·exact h q hq
theorem Ju(l s):(dJ l s).length=l.length:=by
 unfold dJ;split
 ·split
  ·rfl
  ·rw[rb]
 ·rfl
theorem zB(h:(bD l).2=true):∃q∈l,(bD l).1=(q.1,q.2.1):=by
 unfold bD at h⊢;split
 ·rename_i p hp;rw[hp]at h;dsimp only at h;split
  ·rename_i hc;rw[aF hc]at h;cases h
  ·exact⟨p,jr hp,rfl⟩
 ·rename_i hp;rw[hp]at h;cases h
theorem qm(h:nv l):rn l:=λhl=>by
 obtain⟨q,hq,e⟩:=zB hl;have h1:=h q hq;have h2:=h1.ft;have h3:=h1.le;rw[e];exact⟨by show 0≤x5 q-jc q;omega,h3⟩
structure nh(k:Int)(v:Sk):Prop where
 ok:pR v
 pc:nv v.bd.1
 e:v.bd.2=bN v.bf
 w:bW v.bf≤k*1073741824
 o:v.out≤18014398509547520
theorem nh.ps{k:Int}(h:nh k v):Co v.bd.1:=λq hq=>(h.pc q hq).s
theorem nh.le{k j:Int}(h:nh k v)(hj:k≤j):nh j v:={h with w:=by have:=h.w;omega}
theorem Rg(id bs cap:Int)(hc:-9223372036854775808≤cap∧cap<9223372036854775808):nh 0 (iU id bs cap) where
 ok:={
  bf:=⟨(by decide:(0:Int)≤0),(by decide:(0:Int)≤0),(by decide:(0:Int)≤0),(by decide:(0:Int)-0≤1073741824),(by decide:(1073741824:Int)≤1073741824),(by decide:(0:Int)≤4611686018427387904)⟩
  bl:=by show(0:Nat)≤4096;decide
  sp:=Wq
  md:=gp.new _
  bs:=rT bs
  cap:=hc
  out:=bh 0
  nx:=bh 0
  fl:=bh 0}
 pc:=λq hq=>by cases hq
 e:=rfl
 w:=by show(0:Int)≤0*1073741824;decide
 o:=by show(0:Int)≤18014398509547520;decide
theorem nh.write{k:Int}(h:nh k v)(hk:k<4294967296)(n:Int):nh (k+1) (eG v n).2:=by
 have hw:=h.w;have hl:=h.ok.bf.ll;have hh:=h.ok.bf.nw;have hu:=h.ok.bf.un;have h0:=h.ok.bf.u;unfold eG AZ;split
 ·exact h.le (by omega)
 ·split
  ·exact h.le (by omega)
  ·rename_i c1 c2;have hb:bW v.bf+n≤bW v.bf+1073741824:=by omega
   have hok:rN (bW v.bf+n,bN v.bf,bU v.bf,bL v.bf):=⟨h0,hu,by show bN v.bf≤bW v.bf+n;omega,by show bW v.bf+n-bU v.bf≤bL v.bf;omega,hl,by show bW v.bf+n≤4611686018427387904;omega⟩;exact{ok:={h.ok with bf:=hok},pc:=h.pc,e:=h.e,w:=by show bW v.bf+n≤(k+1)*1073741824;omega,o:=h.o}
theorem nh.done{k:Int}(h:nh k v)(n:Int):nh k (cv v n).2:=by
 have ho:=h.ok.out;unfold U at ho;unfold cv;split
 ·exact h
 ·rename_i c;have hb:=h.o;exact{h with ok:={h.ok with out:=by show U (v.out-n);unfold U;omega},o:=by show v.out-n≤18014398509547520;omega}
theorem M9(hs:pS s){f:Int}(hf:U f):pS (oz s f):=by
 have h1:U (if bH (pD s) f>1 then bH (pD s) f else 1):=by
  have:=oT hs.d hf;split
  ·exact this
  ·exact bh 1
 exact{hs with l:=h1}
theorem AP(hs:pS s){af f:Int}(hn:U af):pS (gQ s af f):=by
 unfold gQ;split
 ·exact{hs with t:=hn,f:=hn}
 ·exact hs
theorem I7(hs:pS s){af f:Int}(hn:U af):Ef (jJ s af f).1:=
 have h:=AP hs (f:=f) hn
 ⟨hn,h.d,h.t,h.f⟩
theorem nh.may{k:Int}(h:nh k v):nh k (dW v).2:=by
 unfold dW;split
 ·dsimp only;split
  ·exact{h with ok:={h.ok with sp:=M9 h.ok.sp h.ok.fl}}
  ·exact h
 ·split
  ·exact h
  ·split<;>exact h
theorem SA{a b:Int}(ha:U a)(hb:U b):U (if a>b then a else b):=by split;exact ha;exact hb
theorem nh.put{k:Int}(h:nh k v){rg:Int×Int}{af:Int}(hn:U af)(hr:0≤rg.2-rg.1∧rg.2-rg.1≤65536)(ho:v.out<18014398509481984):nh k (lr v rg ag af).2:=by
 have h1:=h.ok.out;unfold U at h1;exact{h with ok:={h.ok with out:=by show U (v.out+(rg.2-rg.1));unfold U;omega,nx:=oT (SA h.ok.nx hn) (oU (by omega) h.ok.md.aY)},o:=by show v.out+(rg.2-rg.1)≤18014398509547520;omega}
theorem vw(l):U (dD l):=X6 l
theorem C1(h:(dW v).1=0)(hl:(bD v.bd.1).2=false):bW v.bf-bN v.bf≠0∧v.bd.1.length<4096:=by
 unfold dW at h;by_cases c1:(bD v.bd.1).2=false∧bW v.bf-bN v.bf=0
 ·rw[aF c1]at h;cases h
 ·rw[aw c1]at h;split at h
  ·cases h
  ·by_cases c3:(bD v.bd.1).2=false∧(v.bd.1.length:Int)≥4096
   ·rw[aF c3]at h;cases h
   ·exact⟨λe=>c1 ⟨hl,e⟩,by
     have:¬(v.bd.1.length:Int)≥4096:=λe=>c3 ⟨hl,e⟩;omega⟩
abbrev kL(v:Sk):Int:=min (bW v.bf-bN v.bf) (bu v)
theorem Io{k:Int}(h:nh k v)(hu:bW v.bf-bN v.bf≠0):1≤kL v∧kL v≤65536∧kL v≤bW v.bf-bN v.bf:=by
 have:=sM v.md.aY v.bs h.ok.md.aY.1;have:=h.ok.bf.nw;unfold kL bu;omega
theorem YG{k:Int}(h:nh k v)(hu:bW v.bf-bN v.bf≠0):ly v.bf (bu v)=(((bN v.bf,bN v.bf+kL v),true),(bW v.bf,bN v.bf+kL v,bU v.bf,bL v.bf)):=by
 have:=sM v.md.aY v.bs h.ok.md.aY.1;unfold ly;rw[aF ⟨by unfold bu;omega,hu⟩]
theorem RT{k:Int}(h:nh k v)(hu:bW v.bf-bN v.bf≠0)(hl:v.bd.1.length<4096)(s):dP v.bd (bN v.bf) (bN v.bf+kL v) s=(0,(v.bd.1++[uE (bN v.bf) (bN v.bf+kL v) s],bN v.bf+kL v)):=by
 have hc:=Io h hu;have he:=h.e;unfold dP;rw[aw (by omega),aw (by omega)]
abbrev V8(v:Sk)(af:Int):Sk:={eJ v af with bf:=(bW v.bf,bN v.bf+kL v,bU v.bf,bL v.bf),bd:=(v.bd.1++[uE (bN v.bf) (bN v.bf+kL v) (jJ v.sp af (c_ v)).1],bN v.bf+kL v)}
abbrev Wa(v:Sk)(af:Int):Sk:={eJ v af with bd:=(dJ v.bd.1 (jJ v.sp af (c_ v)).1,v.bd.2)}
theorem ML{k:Int}(h:nh k v)(af:Int)(hm:(dW v).1=0)(hl:(bD v.bd.1).2=false):uW v af=lr (V8 v af) (bN v.bf,bN v.bf+kL v) false af:=by
 obtain⟨h1,h2⟩:=C1 hm hl;unfold uW;rw[aw (by rw[hl];intro c;cases c),YG h h1];dsimp only;rw[RT h h1 h2]
theorem MM(v)(af:Int)(hl:(bD v.bd.1).2=true):uW v af=lr (Wa v af) (bD v.bd.1).1 true af:=by
 unfold uW;rw[aF hl]
theorem E8{k:Int}(h:nh k v){af:Int}(hn:U af)(hm:(dW v).1=0)(hl:(bD v.bd.1).2=false):nh k (V8 v af):=by
 obtain⟨h1,h2⟩:=C1 hm hl;have hc:=Io h h1;have b1:=h.ok.bf.u;have b2:=h.ok.bf.un;have b3:=h.ok.bf.nw;have b6:=h.ok.bf.w;have hs:=I7 h.ok.sp (f:=c_ v) hn;exact{
  ok:={ h.ok with
   bf:=⟨b1,by show bU v.bf≤bN v.bf+kL v;omega,by show bN v.bf+kL v≤bW v.bf;omega,h.ok.bf.l,h.ok.bf.ll,b6⟩
   bl:=by show(v.bd.1++[_]).length≤4096;rw[eQ];simp;omega
   sp:=AP h.ok.sp hn
   fl:=vw _}
  pc:=λq hq=>by
   rcases dX.1 hq with hq|hq
   ·exact h.pc q hq
   ·rw[gH.1 hq];exact⟨by show 0≤bN v.bf;omega,by show bN v.bf<bN v.bf+kL v;omega,by show bN v.bf+kL v-bN v.bf≤65536;omega,by show bN v.bf+kL v≤4611686018427387904;omega,hs,λhx=>by cases hx⟩
  e:=rfl
  w:=h.w
  o:=h.o}
theorem Fa{k:Int}(h:nh k v){af:Int}(hn:U af):nh k (Wa v af):=
  { ok:={ h.ok with
      bl:=by show(dJ v.bd.1 _).length≤4096;rw[Ju];exact h.ok.bl
      sp:=AP h.ok.sp hn
      fl:=vw _}
    pc:=Km h.pc (I7 h.ok.sp hn)
    e:=h.e
    w:=h.w
    o:=h.o}
theorem nh.emit{k:Int}(h:nh k v){af:Int}(hn:U af):nh k (cm v af).2:=by
 unfold cm;by_cases hm:(dW v).1=0
 ·rw[aw (by rw[hm];exact λe=>e rfl)];obtain⟨ho,_⟩:=C2 h.ok.md.aY hm;show nh k (uW v af).2;cases hl:(bD v.bd.1).2 with
  |true=>
   rw[MM v af hl];exact(Fa h hn).put hn (qm h.pc hl) ho
  |false=>
   rw[ML h af hm hl];have hc:=Io h (C1 hm hl).1;exact(E8 h hn hm hl).put hn (by show 0≤bN v.bf+kL v-bN v.bf∧bN v.bf+kL v-bN v.bf≤65536;omega) ho
 ·rw[aF hm];exact h.may
theorem BV{k:Int}(h:nh k v){af bn:Int}(hn:U af)(hl:U bn):nh k (jX v af bn):=by
 have hts:=sM v.md.aY v.bs h.ok.md.aY.1;have ht:=yH h.ok.sp hn hl h.ok.fl;have hsp:=h.ok.sp;exact{ h with ok:={ h.ok with
  sp:=⟨hsp.d,hsp.t,hsp.f,hsp.l,bh 0,bh 0,bh 0,bh 0,bh 0⟩
  md:=h.ok.md.dE ht ⟨by unfold bu;omega,by unfold bu;omega⟩}}
theorem nh.yl{k:Int}(h:nh k v){af:Int}(hn:U af):nh k (iz v af):=
 BV (v:={v with bd:=(v.bd.1.map fj,v.bd.2)}) {ok:=pR.yl h.ok,pc:=Fi h.pc,e:=h.e,w:=h.w,o:=h.o} hn (vw _)
theorem Zz(b)(upto:Int):bN (tD b upto).2=bN b∧bW (tD b upto).2=bW b:=by unfold tD;split<;>exact⟨rfl,rfl⟩
end pY

namespace Sy
open bK bp ik fg gT fQ eX ga eC fe lL oo pW pX mS vc oq Bw ny pY
abbrev pE:Ks.T KCf:=(3000,15000,100,50,10000000000,0,false,100000,1000)
end Sy

namespace Bx
open bK bp ik fg gT fQ eX ga eC fe lL oo pW pX mS vc oq ny pY
def yk:List Pc→Int
 |[]=>0
 |p::l=>(if lE p then x5 p-jc p else 0)+yk l
theorem EN:∀(l:List Pc),nv l→∀(n:Int),0≤n→n+65536*(l.length:Int)<18446744073709551616→l.foldl uc n=n+yk l
 |[],_,n,_,_=>by show n=n+0;omega
 |p::l,h,n,h0,h1=>by
  have hp:=h p (na ..);have a1:=hp.ft;have a2:=hp.le;rw[fq]at h1;have e:uc n p=n+(if lE p then x5 p-jc p else 0):=by
   unfold uc;split
   ·rw[iy (n:=x5 p-jc p)];exact iy
   ·omega
  have hb:0≤(if lE p=true then x5 p-jc p else 0)∧(if lE p=true then x5 p-jc p else 0)≤65536:=by split<;>omega
  rw[Ds,EN l (λq hq=>h q (mz _ hq)) _ (by rw[e];omega) (by rw[e];omega),e,yk];omega
theorem qe(h:nv l)(hl:l.length≤4096):dD l=yk l:=by
 have:=EN l h 0 (by decide) (by omega);rw[dD,this];omega
theorem Is:∀(l m:List Pc),yk (l++m)=yk l+yk m
 |[],m=>by show yk m=0+yk m;omega
 |p::l,m=>by show _+yk (l++m)=_+yk l+yk m;rw[Is l m];omega
theorem SH:∀{l:List Pc},nv l→0≤yk l∧yk l≤65536*(l.length:Int)
 |[],_=>by show(0:Int)≤0∧(0:Int)≤65536*(0:Nat);omega
 |p::l,h=>by
  have hp:=h p (na ..);have a1:=hp.ft;have a2:=hp.le;have:=SH (l:=l) (λq hq=>h q (mz _ hq));have hb:0≤(if lE p=true then x5 p-jc p else 0)∧(if lE p=true then x5 p-jc p else 0)≤65536:=by split<;>omega
  rw[fq,yk];omega
theorem It:∀{l:List Pc} {i:Nat} {p:Pc} (q:Pc),l[i]?=some p→yk (l.set i q)=yk l-(if lE p then x5 p-jc p else 0)+(if lE q then x5 q-jc q else 0)
 |[],i,p,q,h=>by cases h
 |a::l,0,p,q,h=>by
  cases h;show _+yk l=(_+yk l)-_+_;omega
 |a::l,i+1,p,q,h=>by
  have:=It (l:=l) (i:=i) (p:=p) q Zg;show _+yk (l.set i q)=(_+yk l)-_+_;rw[this];omega
theorem sU(h:¬fI f xs<0):∃x,xs[(fI f xs).toNat]?=some x∧f x=true:=by
 unfold fI at h⊢;split at h
 ·rename_i i hi;obtain⟨hl,hp,_⟩:=Fw.1 hi;exact⟨xs[i],by simp[gG hl],hp⟩
 ·exact absurd (by decide:(-1:Int)<0) h
theorem IK{l:List Pc}(h:(bD l).2=true):∃i p,l[i]?=some p∧jP p=true∧(bD l).1=(jc p,x5 p)∧∀s,dJ l s=l.set i (mG p s):=by
 have hi:¬fI jP l<0:=λhc=>by rw[sf hc]at h;cases h
 obtain⟨p,hp,hl⟩:=sU hi;refine⟨(fI jP l).toNat,p,hp,hl,?_,λs=>?_⟩
 ·unfold bD;rw[hp];dsimp only;rw[if_neg hi]
 ·unfold dJ;rw[hp];dsimp only;rw[if_neg hi]
theorem LA(hl:nv l)(h:(bD l).2=true)(s):yk (dJ l s)=yk l+((bD l).1.2-(bD l).1.1)∧1≤(bD l).1.2-(bD l).1.1:=by
 obtain⟨i,p,hp,hlo,e1,e2⟩:=IK h;have ho:=hl p (jr hp);have hsk:=ho.x hlo;have h1:=ho.ft;have f1:lE p=false:=by unfold lE;rw[hlo];simp
 have f2:lE (mG p s)=true:=by
  show(!(yC p)&&!false)=true;rw[hsk];rfl
 rw[e2,It _ hp,e1,f1,f2];refine⟨?_,by show 1≤x5 p-jc p;omega⟩;show yk l-0+(x5 p-jc p)=yk l+(x5 p-jc p);omega
theorem Rb(h:(dW v).1=0):c_ v<v.md.cO∧v.out<io v.md.aY (bu v) v.cap:=by
 unfold dW at h;split at h
 ·cases h
 ·split at h
  ·cases h
  ·rename_i c;exact Ad.1 c
structure Xr(v' v:Sk):Prop where
 id:v'.id=v.id
 bs:v'.bs=v.bs
 cap:v'.cap=v.cap
 bf:v'.bf=v.bf
 bd:v'.bd=v.bd
 md:v'.md=v.md
 out:v'.out=v.out
 nx:v'.nx=v.nx
theorem E4(v):Xr (dW v).2 v:=by
 unfold dW;split
 ·dsimp only;split<;>exact⟨rfl,rfl,rfl,rfl,rfl,rfl,rfl,rfl⟩
 ·split
  ·exact⟨rfl,rfl,rfl,rfl,rfl,rfl,rfl,rfl⟩
  ·split<;>exact⟨rfl,rfl,rfl,rfl,rfl,rfl,rfl,rfl⟩
theorem Mz{af:Int}(h:(cm v af).1.2=0):(dW v).1=0:=by
 by_cases hm:(dW v).1=0
 ·exact hm
 ·unfold cm at h;rw[aF hm]at h;exact h
abbrev gN(g:Sg):Int:=g.2.2.1
abbrev gF(g:Sg):Int:=g.2.1
abbrev gS(g:Sg):Int:=g.2.2.2.1
abbrev gA(g:Sg):Bool:=g.2.2.2.2
structure Jr(v:Sk)(af:Int)(g:Sg)(v':Sk):Prop where
 n:1≤gN g∧gN g≤65536
 id:g.1=v.id
 st:gS g=if v.nx>af then v.nx else af
 out:v'.out=v.out+gN g
 fl:c_ v'=c_ v+gN g
 cO:c_ v<v.md.cO
 lim:v.out<io v.md.aY (bu v) v.cap
 md:v'.md=v.md
 Bk:v'.id=v.id
 bs:v'.bs=v.bs
 cap:v'.cap=v.cap
 nx:v'.nx=bH (gS g) (dZ (gN g) v.md.aY)
 new:gA g=false→gF g=bN v.bf∧v'.bf=(bW v.bf,bN v.bf+gN g,bU v.bf,bL v.bf)∧(bD v.bd.1).2=false∧gN g=kL v∧v'.bd=(v.bd.1++[uE (gF g) (gF g+gN g) (jJ v.sp af (c_ v)).1],gF g+gN g)
 Nv:gA g=true→v'.bf=v.bf∧bD v.bd.1=((gF g,gF g+gN g),true)∧v'.bd=(dJ v.bd.1 (jJ v.sp af (c_ v)).1,v.bd.2)
theorem BG{k:Int}(h:nh k v){af:Int}(hn:U af)(he:(cm v af).1.2=0):Jr v af (cm v af).1.1 (cm v af).2:=by
 have hm:=Mz he;obtain⟨m1,m2⟩:=Rb hm;have hbl:=h.ok.bl;have e:cm v af=(((uW v af).1,0),(uW v af).2):=by unfold cm;rw[aw (λc=>c hm)]
 rw[e];dsimp only;cases hl:(bD v.bd.1).2 with
 |true=>
  have hp:=Fa h hn;obtain⟨f1,f2⟩:=LA h.pc hl (jJ v.sp af (c_ v)).1;obtain⟨_,f3⟩:=qm h.pc hl;rw[MM v af hl];have hF:c_ (Wa v af)=c_ v+((bD v.bd.1).1.2-(bD v.bd.1).1.1):=by
   show dD (dJ v.bd.1 _)=dD v.bd.1+_;rw[qe hp.pc hp.ok.bl,qe h.pc h.ok.bl];exact f1
  exact⟨⟨f2,f3⟩,rfl,rfl,rfl,hF,m1,m2,rfl,rfl,rfl,rfl,rfl,λc=>(by cases c),λ_=>⟨rfl,by
   show bD v.bd.1=(((bD v.bd.1).1.1,(bD v.bd.1).1.1+((bD v.bd.1).1.2-(bD v.bd.1).1.1)),true);rw[show(bD v.bd.1).1.1+((bD v.bd.1).1.2-(bD v.bd.1).1.1)=(bD v.bd.1).1.2 by omega];exact sA rfl hl,rfl⟩⟩
 |false=>
  obtain⟨g1,g2⟩:=C1 hm hl;have hc:=Io h g1;have hp:=E8 h hn hm hl;rw[ML h af hm hl];have hw:bN v.bf+kL v-bN v.bf=kL v:=by omega
  have hF:c_ (V8 v af)=c_ v+(bN v.bf+kL v-bN v.bf):=by
   show dD (v.bd.1++[_])=dD v.bd.1+_;rw[qe hp.pc hp.ok.bl,qe h.pc h.ok.bl,Is];show _+(bN v.bf+kL v-bN v.bf+0)=_;omega
  refine⟨⟨by show 1≤bN v.bf+kL v-bN v.bf;omega,by show bN v.bf+kL v-bN v.bf≤65536;omega⟩,rfl,rfl,rfl,hF,m1,m2,rfl,rfl,rfl,rfl,rfl,λ_=>⟨rfl,?_,hl,hw,?_⟩,λc=>(by cases c)⟩
  ·show(bW v.bf,bN v.bf+kL v,bU v.bf,bL v.bf)=(bW v.bf,bN v.bf+(bN v.bf+kL v-bN v.bf),bU v.bf,bL v.bf);rw[hw]
  ·show(v.bd.1++[uE (bN v.bf) (bN v.bf+kL v) _],bN v.bf+kL v)=(v.bd.1++[uE (bN v.bf) (bN v.bf+(bN v.bf+kL v-bN v.bf)) _],bN v.bf+(bN v.bf+kL v-bN v.bf));rw[hw]
end Bx

namespace nz
open bK bp ik fg gT fQ eX ga eC fe lL oo pW pX mS vc oq Bw ny Lt pY Sy Bx
theorem HG(aY tso most:Int)(hr:U aY)(ht:0≤tso∧tso≤65536)(hm:-9223372036854775808≤most∧most<9223372036854775808):bx (Uy aY tso most) bg (λr=>br (r=io aY tso most) bg):=
 bF λw0 S R h=>by
  unfold U at hr;have e1:u64.wrap (if tso>(0:Int)then tso else(0:Int))=tso:=by rw[show(if tso>(0:Int)then tso else(0:Int))=tso by split<;>omega];exact iy
  have e2:u64.wrap (if most>(0:Int)then most else(0:Int))=(if most>(0:Int)then most else(0:Int)):=wu (by split<;>omega) (by split<;>omega);have e3:u64.wrap (aY.tdiv 1024)=aY/1024:=by rw[l_ hr.1];exact iy
  rw[e1,e2,e3];refine aI (wg 2 tso (bh 2) ⟨by omega,by omega⟩) (h.le (aG _)) λw h=>?_;have e4:rv 2 tso=2*tso:=by unfold rv;rw[aF (by omega)]
  rw[e4];refine au.aH ?_ h.h_;obtain⟨mx,hmx⟩:∃mx,mx=if most>(0:Int)then most else(0:Int):=⟨_,rfl⟩
  rw[←hmx];obtain⟨z,hz⟩:∃z,z=if mx<aY/1024 then mx else aY/1024:=⟨_,rfl⟩
  rw[←hz];unfold io jF;have hm0:0≤mx:=by rw[hmx];split<;>omega
  have:0≤z:=by rw[hz];split<;>omega
  have e5:(if 2*tso≤0 then 0 else 2*tso)=2*tso:=by split<;>omega
  rw[e5];by_cases hp:most>0
  ·rw[aF hp]at hmx;rw[hmx]at hz;rw[←hz];by_cases c2:z>2*tso
   ·rw[aF c2,aw (Int.not_le.2 c2)]
   ·rw[aw c2,aF (Int.not_lt.1 c2)]
  ·rw[aw hp]at hmx;have hz0:z=0:=by rw[hz,hmx];split<;>omega
   have hle:(if most<aY/1024 then most else aY/1024)≤2*tso:=(by split<;>omega);rw[aF hle,aw (by omega)]
abbrev KO:Ks:=[.int .i64,.int .i64,.int .u64,.int .u64,.sl]
def later(af gap:Int):Int:=if 4611686018427387904<bH af gap then 4611686018427387904 else bH af gap
structure pw(k:Int)(v:Sk):Prop where
 i:nh k v
 kr:0≤k∧k≤1000000
 g:pG v.sp=0
 b:F5.Bd v.md ((k+1)*1073741824)
theorem Ib(a b:Int):bH a b≤a+b∨bH a b≤18446744073709551615∧a+b>18446744073709551615:=by unfold bH;split<;>omega
theorem SB(af:Int):∀(l:List Pc) (s:Sp),nv l→pG s+65536*(l.length:Int)<18446744073709551616→pG (rp af s l)≤pG s+65536*(l.length:Int)
 |[],s,_,_=>by show pG s≤pG s+65536*((0:Nat):Int);omega
 |q::l,s,h,hb=>by
  have hq:=h q (na ..);have h1:=hq.ft;have h2:=hq.le;rw[fq]at hb⊢;have e:pG (sH af s q)≤pG s+65536:=by
   have e1:u64.wrap (x5 q-jc q)=x5 q-jc q:=iy;have e2:pG (sH af s q)=bH (pG s) (u64.wrap (x5 q-jc q)):=(by unfold sH yh;split<;>rfl);rw[e2,e1];unfold bH;split<;>omega
  have:=SB af l (sH af s q) (λr hr=>h r (mz _ hr)) (by omega);show pG (rp af (sH af s q) l)≤_;omega
theorem MF{k:Int}(h:nh k v):0≤c_ v∧c_ v≤268435456:=by
 have h1:=SH h.pc;have h2:=h.ok.bl;unfold c_;rw[qe h.pc h.ok.bl];omega
theorem IF{k:Int}(h:nh k v)(hk:0≤k∧k≤1000000)(hg:pG v.sp≤268435456)(hb:F5.Bd v.md ((k+1)*1073741824)){af bn:Int}(hn:U af)(hl:U bn):pG (jX v af bn).sp=0∧F5.Bd (jX v af bn).md ((k+1+1)*1073741824):=by
 have ht:=yH h.ok.sp hn hl h.ok.fl;have hf:=MF h;have hm:=h.ok.md.bs;obtain⟨b1,b2⟩:=F5.YK hb h.ok.md ⟨by omega,by omega⟩ (by omega) ht (bu v);have ha:fD (gh v.sp af bn (c_ v)).1≤268435456:=by
  unfold gh;split
  ·exact hg
  ·show(0:Int)≤_;decide
 have hfl:kP (gh v.sp af bn (c_ v)).1=c_ v:=by unfold gh;split<;>rfl
 refine⟨rfl,⟨?_,by show(pC v.md (gh v.sp af bn (c_ v)).1 (bu v)).gM≤_;omega⟩⟩;show(pC v.md (gh v.sp af bn (c_ v)).1 (bu v)).cO≤_;rcases b1 with b|b
 ·have:=Ib ((k+1)*1073741824) (fD (gh v.sp af bn (c_ v)).1);omega
 ·have:=Ib (kP (gh v.sp af bn (c_ v)).1) (fD (gh v.sp af bn (c_ v)).1);omega
theorem Si{a b:Int}(h:F5.Bd m a)(hab:a≤b):F5.Bd m b:=⟨xy h.cO hab,xy h.gM hab⟩
theorem Rh(id bs cap:Int)(hc:-9223372036854775808≤cap∧cap<9223372036854775808):pw 0 (iU id bs cap) where
 i:=Rg id bs cap hc
 kr:=by decide
 g:=rfl
 b:=by
  have:=IP (bm bs);exact⟨by show 10*nk (bm bs)≤(0+1)*1073741824;omega,by show(0:Int)≤(0+1)*1073741824;decide⟩
theorem pw.up{k:Int}(h:pw k v)(hk:k<1000000)(hi:nh (k+1) v')(hg:pG v'.sp=pG v.sp)(hm:v'.md=v.md):pw (k+1) v':=
 {i:=hi,kr:=by have:=h.kr;omega,g:=hg.trans h.g,b:=by rw[hm];exact Si h.b (by omega)}
theorem Yi(v):pG (dW v).2.sp=pG v.sp:=by
 unfold dW;split
 ·dsimp only;split<;>rfl
 ·split
  ·rfl
  ·split<;>rfl
theorem Jd(s)(af f:Int):pG (gQ s af f)=pG s:=by unfold gQ;split<;>rfl
theorem Mx(v)(af:Int):pG (cm v af).2.sp=pG v.sp∧(cm v af).2.md=v.md:=by
 unfold cm;split
 ·exact⟨Yi v,(E4 v).md⟩
 ·show pG (uW v af).2.sp=pG v.sp∧(uW v af).2.md=v.md;unfold uW;split
  ·exact⟨Jd _ _ _,rfl⟩
  ·exact⟨Jd _ _ _,rfl⟩
theorem pw.write{k:Int}(h:pw k v)(hk:k<1000000)(n:Int):pw (k+1) (eG v n).2:=
 h.up hk (h.i.write (by omega) n) rfl rfl
theorem pw.done{k:Int}(h:pw k v)(hk:k<1000000)(n:Int):pw (k+1) (cv v n).2:=
 h.up hk ((h.i.done n).le (by omega)) (by unfold cv;split<;>rfl) (by unfold cv;split<;>rfl)
theorem pw.le1{k:Int}(h:pw k v)(hk:k<1000000):pw (k+1) v:=h.up hk (h.i.le (by omega)) rfl rfl
theorem pw.yl{k:Int}(h:pw k v)(hk:k<1000000){af:Int}(hn:U af):pw (k+1) (iz v af):=by
 have hi:nh k {v with bd:=(v.bd.1.map fj,v.bd.2)}:={ok:=pR.yl h.i.ok,pc:=Fi h.i.pc,e:=h.i.e,w:=h.i.w,o:=h.i.o};obtain⟨a,b⟩:=IF hi h.kr (by show pG v.sp≤_;rw[h.g];decide) h.b hn (vw v.bd.1);exact{i:=(h.i.yl hn).le (by omega),kr:=by have:=h.kr;omega,g:=a,b:=b}
theorem pw.Ek{k:Int}(h:pw k v)(hk:k<1000000){af:Int}(hn:U af)(upto:Int)(xs:List (Int×Int)):pw (k+1) (nP v af upto xs).2:=by
 by_cases hm:uC v.bd upto xs=true
 ·have hi:nh k (kZ v af upto xs):=by
   obtain⟨e1,e2⟩:=Zz v.bf upto;exact{ok:=AO h.i.ok h.i.ps hn upto xs,pc:=Fj (NE h.i.pc upto xs),e:=by show v.bd.2=bN (tD v.bf upto).2;rw[e1];exact h.i.e,w:=by show bW (tD v.bf upto).2≤_;rw[e2];exact h.i.w,o:=h.i.o}
  have hto:nv (fM upto xs v.bd.1):=λq hq=>h.i.pc q (tS.1 hq).1;have hlen:(fM upto xs v.bd.1).length≤4096:=kH (FB _ _) h.i.ok.bl;have hg:pG (kZ v af upto xs).sp≤268435456:=by
   show pG (rp af v.sp (fM upto xs v.bd.1))≤_;have:=SB af (fM upto xs v.bd.1) v.sp hto (by rw[h.g];omega);rw[h.g]at this;omega
  obtain⟨a,b⟩:=IF hi h.kr hg h.b hn (zR (eR upto xs v.bd.1));have e:(nP v af upto xs).2=jX (kZ v af upto xs) af (cI (eR upto xs v.bd.1)).2.1:=by unfold nP;rw[aF hm]
  rw[e];exact{i:=(BV hi hn (zR _)).le (by omega),kr:=by have:=h.kr;omega,g:=a,b:=b}
 ·have e:(nP v af upto xs).2=v:=by unfold nP;rw[aw hm]
  rw[e];exact h.le1 hk
end nz

end Go.X
