/- Contracts. -/
import Derived.Test.YtniflenfpbbikaaGreatDoorB3
set_option linter.all false
set_option autoImplicit true
set_option relaxedAutoImplicit true
namespace Go.X
open IntKind (u64 i64)
open Go.Proofs
namespace Tu
open bH bp _root_.Go.X.Target gM fK Js Jt LA Jq Jr
section
variable (b n1 n2 n3 n4 n5 n6:Nat) (m:Md) (hm:gr m) (s:Sm) (hs:oi s) (o:Bool)
include hm hs
theorem Nr:bu (Vi (some ⟨b,0⟩) s) (af b (ad.ig n1 n2 n3 n4 n5 n6 m)^af n1 (ad.gD m.w)^af n2 (ad.jK m.r)^af n3 (ad.jA m.p)^af n4 (ad.iV m.c)^af n5 (ad.jk m.b)^af n6 (ad.gz m.q)) (λ_=>af b (ad.ig n1 n2 n3 n4 n5 n6 ((fh m s)))^af n1 (ad.gD ((fh m s).w))^af n2 (ad.jK ((fh m s).r))^af n3 (ad.jA ((fh m s).p))^af n4 (ad.iV ((fh m s).c))^af n5 (ad.jk ((fh m s).b))^af n6 (ad.gz ((fh m s).q))):=
 bC λw0 S R h=>by
  refine aD h λx w h=>?_;have h:au w0 S R w ((af b (ad.ig n1 n2 n3 n4 n5 n6 m)^af n1 (ad.gD m.w)^af n2 (ad.jK m.r)^af n3 (ad.jA m.p)^af n4 (ad.iV m.c)^af n5 (ad.jk m.b)^af n6 (ad.gz m.q))^af x (Ks.mk aW s)):=h.aI;refine aQ h (λ_=>(af b (ad.ig n1 n2 n3 n4 n5 n6 m)^af n1 (ad.gD m.w)^af n2 (ad.jK m.r)^af n3 (ad.jA m.p)^af n4 (ad.iV m.c)^af n5 (ad.jk m.b)^af n6 (ad.gz m.q))^af x (Ks.mk aW s)) (λ_=>¬(fE s=0∨AQ s=0)) (λ_ w c h=>?_) ?_
  ·repeat' (first
    |(refine aM h λw h=>?_)
    |(refine ac ?_)
    |(refine aw h rfl ?_)
    |(refine ah h rfl ?_)
    |(refine aO h ?_)
    |(refine aN h rfl ?_)
    |(refine az h (by rfl) λw h=>?_)
    |(refine aD h λn w h=>?_)
    |(refine aT h λw h=>?_)
    |(refine bh h rfl λw h=>?_;dsimp only[dE,over]at h)
    |(refine ar (jg (gO s) (FR s) hs.del hs.pri) h λr w h=>?_;obtain⟨hr,h⟩:=h.aP;(try dsimp only at hr h);try rw[hr])
    |(refine ar (uO (dX (gO s) (FR s)) 1000000000 (AQ s) (nB hs.del hs.pri) (bm _) hs.Xj) h λr w h=>?_;obtain⟨hr,h⟩:=h.aP;(try dsimp only at hr h);try rw[hr]))
   have hU:U (mK s):=yS (nB hs.del hs.pri) (bm _) hs.Xj;refine aQ h (λ_=>(af b (ad.ig n1 n2 n3 n4 n5 n6 m)^af n1 (ad.gD m.w)^af n2 (ad.jK m.r)^af n3 (ad.jA m.p)^af n4 (ad.iV m.c)^af n5 (ad.jk m.b)^af n6 (ad.gz m.q))^af x (Ks.mk aW s)) (λy:Bool=>y=decide (rG s=false∨mK s≥m.w.v0)) (λ(y:Bool) w hy h=>?_) ?_
   ·rw[hy];refine ae (λc2=>?_) λc2=>?_
    ·have c2:rG s=false∨mK s≥m.w.v0:=gK;have e:fh m s={m with w:=A5 m.w m.r.n (mK s)}:=(by unfold fh;rw[ay c,aG c2]);rw[e];repeat' (first
      |(refine aM h λw h=>?_)
      |(refine ac ?_)
      |(refine aw h rfl ?_)
      |(refine ah h rfl ?_)
      |(refine aO h ?_)
      |(refine aN h rfl ?_)
      |(refine az h (by rfl) λw h=>?_)
      |(refine aD h λn w h=>?_)
      |(refine aT h λw h=>?_)
      |(refine bh h rfl λw h=>?_;dsimp only[dE,over]at h)
      |(refine ar (BM n2 m.r) h λr w h=>?_;obtain⟨hr,h⟩:=h.aP;(try dsimp only at hr h);try rw[hr])
      |(refine ar (GX n1 m.w hm.w m.r.n (mK s) hm.r.n hU) h λr w h=>?_;obtain⟨hr,h⟩:=h.aP;(try dsimp only at hr h);try rw[hr]))
     exact h.aI
    ·have c2:¬(rG s=false∨mK s≥m.w.v0):=gK;have e:fh m s=m:=(by unfold fh;rw[ay c,ay c2]);rw[e];exact h.aI
   ·repeat' (first
     |(refine aM h λw h=>?_)
     |(refine ac ?_)
     |(refine aw h rfl ?_)
     |(refine ah h rfl ?_)
     |(refine aO h ?_)
     |(refine aN h rfl ?_)
     |(refine az h (by rfl) λw h=>?_)
     |(refine aD h λn w h=>?_)
     |(refine aT h λw h=>?_)
     |(refine bh h rfl λw h=>?_;dsimp only[dE,over]at h))
    refine ae (λc2=>?_) λc2=>?_
    ·have c2:rG s=false:=gK;exact⟨by simp[c2],h.aI⟩
    ·have c2:rG s=true:=gK;repeat' (first
      |(refine aM h λw h=>?_)
      |(refine ac ?_)
      |(refine aw h rfl ?_)
      |(refine ah h rfl ?_)
      |(refine aO h ?_)
      |(refine aN h rfl ?_)
      |(refine az h (by rfl) λw h=>?_)
      |(refine aD h λn w h=>?_)
      |(refine aT h λw h=>?_)
      |(refine bh h rfl λw h=>?_;dsimp only[dE,over]at h)
      |(refine ar (y5 n1 m.w) h λr w h=>?_;obtain⟨hr,h⟩:=h.aP;(try dsimp only at hr h);try rw[hr]))
     exact⟨by rw[jG];simp[c2,mK],h.aI⟩
  ·repeat' (first
    |(refine aM h λw h=>?_)
    |(refine ac ?_)
    |(refine aw h rfl ?_)
    |(refine ah h rfl ?_)
    |(refine aO h ?_)
    |(refine aN h rfl ?_)
    |(refine az h (by rfl) λw h=>?_)
    |(refine aD h λn w h=>?_)
    |(refine aT h λw h=>?_)
    |(refine bh h rfl λw h=>?_;dsimp only[dE,over]at h))
   refine ae (λc=>?_) λc=>?_
   ·have c:fE s=0:=cC;have e:fh m s=m:=(by unfold fh;rw[aG (.inl c)]);rw[e];exact h.aI
   repeat' (first
    |(refine aM h λw h=>?_)
    |(refine ac ?_)
    |(refine aw h rfl ?_)
    |(refine ah h rfl ?_)
    |(refine aO h ?_)
    |(refine aN h rfl ?_)
    |(refine az h (by rfl) λw h=>?_)
    |(refine aD h λn w h=>?_)
    |(refine aT h λw h=>?_)
    |(refine bh h rfl λw h=>?_;dsimp only[dE,over]at h))
   have c:¬fE s=0:=cC;refine ae (λc2=>?_) λc2=>?_
   ·have c2:AQ s=0:=gK;have e:fh m s=m:=(by unfold fh;rw[aG (.inr c2)]);rw[e];exact h.aI
   ·have c2:¬AQ s=0:=gK;exact⟨λhh=>hh.elim c c2,h.aI⟩
theorem KA:bu (Vl (some ⟨b,0⟩) s) (af b (ad.ig n1 n2 n3 n4 n5 n6 m)^af n1 (ad.gD m.w)^af n2 (ad.jK m.r)^af n3 (ad.jA m.p)^af n4 (ad.iV m.c)^af n5 (ad.jk m.b)^af n6 (ad.gz m.q)) (λ_=>af b (ad.ig n1 n2 n3 n4 n5 n6 ((tm (rD m) s)))^af n1 (ad.gD ((tm (rD m) s).w))^af n2 (ad.jK ((tm (rD m) s).r))^af n3 (ad.jA ((tm (rD m) s).p))^af n4 (ad.iV ((tm (rD m) s).c))^af n5 (ad.jk ((tm (rD m) s).b))^af n6 (ad.gz ((tm (rD m) s).q))):=
 bC λw0 S R h=>by
  refine aD h λx w h=>?_;have h:au w0 S R w ((af b (ad.ig n1 n2 n3 n4 n5 n6 m)^af n1 (ad.gD m.w)^af n2 (ad.jK m.r)^af n3 (ad.jA m.p)^af n4 (ad.iV m.c)^af n5 (ad.jk m.b)^af n6 (ad.gz m.q))^af x (Ks.mk aW s)):=h.aI;refine fY (λ(_:Unit) (u:Md)=>(af b (ad.ig n1 n2 n3 n4 n5 n6 u)^af n1 (ad.gD u.w)^af n2 (ad.jK u.r)^af n3 (ad.jA u.p)^af n4 (ad.iV u.c)^af n5 (ad.jk u.b)^af n6 (ad.gz u.q))^af x (Ks.mk aW s)) (λ_ u=>(gr u∧rD u=rD m)) (λ_ u=>if u.mode=0 then 1 else 0) m h ⟨hm,rfl⟩ ?_;rintro K _ u w ⟨hu,heq⟩ h hK;rw[←heq];refine aQ h (λ_=>(af b (ad.ig n1 n2 n3 n4 n5 n6 u)^af n1 (ad.gD u.w)^af n2 (ad.jK u.r)^af n3 (ad.jA u.p)^af n4 (ad.iV u.c)^af n5 (ad.jk u.b)^af n6 (ad.gz u.q))^af x (Ks.mk aW s)) (λy:Bool=>y=decide (u.mode=0∧u.p.full=true)) (λ(y:Bool) w hy h=>?_) ?_
  ·rw[hy];refine ae (λc=>?_) λc=>?_
   ·have c:u.mode=0∧u.p.full=true:=cC;refine ac (aA h b (ad.ig n1 n2 n3 n4 n5 n6 ({u with mode:=1})) rfl rfl rfl λw h=>?_);refine hK () {u with mode:=1} w ⟨{hu with mode:=by simp},?_⟩ h.aI ?_
    ·rw[←heq];have e1:rD u={u with mode:=1}:=by unfold rD;rw[aG c]
     rw[e1];unfold rD;rw[ay (by simp)]
    ·rw[aG c.1,ay (by simp)];omega
   have c:¬(u.mode=0∧u.p.full=true):=cC;have e1:rD u=u:=(by unfold rD;rw[ay c]);rw[e1];refine aQ h (λ_=>(af b (ad.ig n1 n2 n3 n4 n5 n6 u)^af n1 (ad.gD u.w)^af n2 (ad.jK u.r)^af n3 (ad.jA u.p)^af n4 (ad.iV u.c)^af n5 (ad.jk u.b)^af n6 (ad.gz u.q))^af x (Ks.mk aW s)) (λy:Bool=>y=decide (u.mode=1∧u.b.dy>0∧kO s≤sv u 256)) (λ(y:Bool) w hy h=>?_) ?_
   ·rw[hy];refine ae (λc2=>?_) λc2=>?_
    ·have c2:u.mode=1∧u.b.dy>0∧kO s≤sv u 256:=gK;have e:tm u s=eW u (iT s):=(by unfold tm;rw[aG c2]);rw[e];refine ah h rfl ?_;refine ar (zd b n1 n2 n3 n4 n5 n6 u (iT s)) h λ_ w h=>?_;exact h.aI
    ·have c2:¬(u.mode=1∧u.b.dy>0∧kO s≤sv u 256):=gK;have e:tm u s=u:=(by unfold tm;rw[ay c2]);rw[e];exact h.aI
   ·repeat' (first
     |(refine aM h λw h=>?_)
     |(refine ac ?_)
     |(refine aw h rfl ?_)
     |(refine ah h rfl ?_)
     |(refine aO h ?_)
     |(refine aN h rfl ?_)
     |(refine az h (by rfl) λw h=>?_)
     |(refine aD h λn w h=>?_)
     |(refine aT h λw h=>?_)
     |(refine bh h rfl λw h=>?_;dsimp only[dE,over]at h))
    refine ae (λc2=>?_) λc2=>?_
    ·have c2:u.mode=1:=gK;repeat' (first
      |(refine aM h λw h=>?_)
      |(refine ac ?_)
      |(refine aw h rfl ?_)
      |(refine ah h rfl ?_)
      |(refine aO h ?_)
      |(refine aN h rfl ?_)
      |(refine az h (by rfl) λw h=>?_)
      |(refine aD h λn w h=>?_)
      |(refine aT h λw h=>?_)
      |(refine bh h rfl λw h=>?_;dsimp only[dE,over]at h)
      |(refine ar (pZ n5 u.b) h λr w h=>?_;obtain⟨hr,h⟩:=h.aP;(try dsimp only at hr h);try rw[hr]))
     refine ae (λc3=>?_) λc3=>?_
     ·have c3:u.b.dy>0:=(by simpa using c3);repeat' (first
       |(refine aM h λw h=>?_)
       |(refine ac ?_)
       |(refine aw h rfl ?_)
       |(refine ah h rfl ?_)
       |(refine aO h ?_)
       |(refine aN h rfl ?_)
       |(refine az h (by rfl) λw h=>?_)
       |(refine aD h λn w h=>?_)
       |(refine aT h λw h=>?_)
       |(refine bh h rfl λw h=>?_;dsimp only[dE,over]at h)
       |(refine ar (y4 b n1 n2 n3 n4 n5 n6 u hu 256 (bm _)) h λr w h=>?_;obtain⟨hr,h⟩:=h.aP;(try dsimp only at hr h);try rw[hr]))
      exact⟨by rw[jG];simp[c2,c3],h.aI⟩
     ·have c3:¬u.b.dy>0:=(by simpa using c3);exact⟨by simp[c3],h.aI⟩
    ·have c2:¬u.mode=1:=gK;exact⟨by simp[c2],h.aI⟩
  ·repeat' (first
    |(refine aM h λw h=>?_)
    |(refine ac ?_)
    |(refine aw h rfl ?_)
    |(refine ah h rfl ?_)
    |(refine aO h ?_)
    |(refine aN h rfl ?_)
    |(refine az h (by rfl) λw h=>?_)
    |(refine aD h λn w h=>?_)
    |(refine aT h λw h=>?_)
    |(refine bh h rfl λw h=>?_;dsimp only[dE,over]at h))
   refine ae (λc=>?_) λc=>?_
   ·have c:u.mode=0:=cC;repeat' (first
     |(refine aM h λw h=>?_)
     |(refine ac ?_)
     |(refine aw h rfl ?_)
     |(refine ah h rfl ?_)
     |(refine aO h ?_)
     |(refine aN h rfl ?_)
     |(refine az h (by rfl) λw h=>?_)
     |(refine aD h λn w h=>?_)
     |(refine aT h λw h=>?_)
     |(refine bh h rfl λw h=>?_;dsimp only[dE,over]at h)
     |(refine ar (qf n3 u.p) h λr w h=>?_;obtain⟨hr,h⟩:=h.aP;(try dsimp only at hr h);try rw[hr]))
    exact⟨by rw[jG];simp[c],h.aI⟩
   ·have c:¬u.mode=0:=cC;exact⟨by simp[c],h.aI⟩
theorem Nj:bu (Vm (some ⟨b,0⟩) s o) (af b (ad.ig n1 n2 n3 n4 n5 n6 m)^af n1 (ad.gD m.w)^af n2 (ad.jK m.r)^af n3 (ad.jA m.p)^af n4 (ad.iV m.c)^af n5 (ad.jk m.b)^af n6 (ad.gz m.q)) (λ_=>af b (ad.ig n1 n2 n3 n4 n5 n6 ((mz m s o)))^af n1 (ad.gD ((mz m s o).w))^af n2 (ad.jK ((mz m s o).r))^af n3 (ad.jA ((mz m s o).p))^af n4 (ad.iV ((mz m s o).c))^af n5 (ad.jk ((mz m s o).b))^af n6 (ad.gz ((mz m s o).q))):=
 bC λw0 S R h=>by
  refine aD h λx w h=>?_;have h:au w0 S R w ((af b (ad.ig n1 n2 n3 n4 n5 n6 m)^af n1 (ad.gD m.w)^af n2 (ad.jK m.r)^af n3 (ad.jA m.p)^af n4 (ad.iV m.c)^af n5 (ad.jk m.b)^af n6 (ad.gz m.q))^af x (Ks.mk aW s)):=h.aI;repeat' (first
   |(refine aM h λw h=>?_)
   |(refine ac ?_)
   |(refine aw h rfl ?_)
   |(refine ah h rfl ?_)
   |(refine aO h ?_)
   |(refine aN h rfl ?_)
   |(refine az h (by rfl) λw h=>?_)
   |(refine aD h λn w h=>?_)
   |(refine aT h λw h=>?_)
   |(refine bh h rfl λw h=>?_;dsimp only[dE,over]at h)
   |(refine ar (w5 b n1 n2 n3 n4 n5 n6 m hm) h λr w h=>?_;obtain⟨hr,h⟩:=h.aP;(try dsimp only at hr h);try rw[hr])
   |(refine ar (L0 n5 m.b hm.b (iT s) (OP s) (kO s) (jw m) o hs.aj hs.bT) h λr w h=>?_;obtain⟨hr,h⟩:=h.aP;(try dsimp only at hr h);try rw[hr]))
  have e:mz m s o=iE {m with b:=(Bc m s o).2} (Bc m s o).1 (iT s):=rfl;rw[e];have h:au w0 S R w ((af b (ad.ig n1 n2 n3 n4 n5 n6 (({m with b:=(Bc m s o).2})))^af n1 (ad.gD (({m with b:=(Bc m s o).2}).w))^af n2 (ad.jK (({m with b:=(Bc m s o).2}).r))^af n3 (ad.jA (({m with b:=(Bc m s o).2}).p))^af n4 (ad.iV (({m with b:=(Bc m s o).2}).c))^af n5 (ad.jk (({m with b:=(Bc m s o).2}).b))^af n6 (ad.gz (({m with b:=(Bc m s o).2}).q)))^af x (Ks.mk aW s)):=h.aI;change aq (Bc m s o).1.1 _ (aq (Bc m s o).1.2 _ _) w;generalize(Bc m s o).1=r at*
  generalize{m with b:=(Bc m s o).2}=u at*
  refine ae (λc=>?_) λc=>?_
  ·have c:r.1=true:=c;have e:iE u r (iT s)={u with gP:=if u.cN>u.gP then u.cN else u.gP,mode:=3}:=(by unfold iE;rw[aG c]);rw[e];refine aM h λw h=>ac (ac (ah h rfl (ah h rfl (ac ?_))));refine aA h b (ad.ig n1 n2 n3 n4 n5 n6 ({u with gP:=if u.cN>u.gP then u.cN else u.gP})) rfl rfl rfl λw h=>?_;refine ac (aA h b (ad.ig n1 n2 n3 n4 n5 n6 ({u with gP:=if u.cN>u.gP then u.cN else u.gP,mode:=3})) rfl rfl rfl λw h=>?_);exact h.aI
  have c:r.1=false:=c;refine ae (λc2=>?_) λc2=>?_
  ·have c2:r.2=true:=c2;have e:iE u r (iT s)=if u.p.full then eW {gw u with mode:=0} (iT s)else{gw u with mode:=0}:=by unfold iE;rw[ay (by rw[c];simp),aG c2]
   rw[e];refine ar (rW b n1 n2 n3 n4 n5 n6 u) h λ_ w h=>?_;refine ac (aA h b (ad.ig n1 n2 n3 n4 n5 n6 ({gw u with mode:=0})) rfl rfl rfl λw h=>?_);refine ac (ah h rfl ?_);refine aK (qf n3 u.p) h λw h=>?_;refine ae (λc3=>?_) λc3=>?_
   ·have c3:u.p.full=true:=c3;rw[aG c3];refine ah h rfl ?_;refine ar (zd b n1 n2 n3 n4 n5 n6 {gw u with mode:=0} (iT s)) h λ_ w h=>?_;exact h.aI
   ·have c3:u.p.full=false:=c3;rw[ay (by rw[c3];simp)];exact h.aI
  ·have c2:r.2=false:=c2;have e:iE u r (iT s)=u:=(by unfold iE;rw[ay (by rw[c];simp),ay (by rw[c2];simp)]);rw[e];exact h.aI
theorem RU:bu (Vo (some ⟨b,0⟩) s o) (af b (ad.ig n1 n2 n3 n4 n5 n6 m)^af n1 (ad.gD m.w)^af n2 (ad.jK m.r)^af n3 (ad.jA m.p)^af n4 (ad.iV m.c)^af n5 (ad.jk m.b)^af n6 (ad.gz m.q)) (λ_=>af b (ad.ig n1 n2 n3 n4 n5 n6 ((bz m s o)))^af n1 (ad.gD ((bz m s o).w))^af n2 (ad.jK ((bz m s o).r))^af n3 (ad.jA ((bz m s o).p))^af n4 (ad.iV ((bz m s o).c))^af n5 (ad.jk ((bz m s o).b))^af n6 (ad.gz ((bz m s o).q))):=
 bC λw0 S R h=>by
  refine aD h λx w h=>?_;have h:au w0 S R w ((af b (ad.ig n1 n2 n3 n4 n5 n6 m)^af n1 (ad.gD m.w)^af n2 (ad.jK m.r)^af n3 (ad.jA m.p)^af n4 (ad.iV m.c)^af n5 (ad.jk m.b)^af n6 (ad.gz m.q))^af x (Ks.mk aW s)):=h.aI;refine aQ h (λ_=>(af b (ad.ig n1 n2 n3 n4 n5 n6 m)^af n1 (ad.gD m.w)^af n2 (ad.jK m.r)^af n3 (ad.jA m.p)^af n4 (ad.iV m.c)^af n5 (ad.jk m.b)^af n6 (ad.gz m.q))^af x (Ks.mk aW s)) (λy:Bool=>y=decide (gT s>0∧m.mn=false)) (λ(y:Bool) w hy h=>?_) ?_
  ·rw[hy];refine ae (λc=>?_) λc=>?_
   ·have c:gT s>0∧m.mn=false:=cC;have e:bz m s o={m with mn:=true,first:=true,kj:=bJ (gO s) (kO s),gP:=if m.cN>m.gP then m.cN else m.gP}:=(by unfold bz;rw[aG c]);rw[e];refine ah h rfl (ah h rfl ?_);refine ar (e_ (gO s) (kO s) hs.del hs.W8) (h.le ((be _ _).trans (bi Le.rfl (aJ _)))) λr w h=>?_;obtain⟨hr,h⟩:=h.aP;rw[hr];refine ac (aA h b (ad.ig n1 n2 n3 n4 n5 n6 ({m with mn:=true})) rfl rfl rfl λw h=>?_);refine ac (aA h b (ad.ig n1 n2 n3 n4 n5 n6 ({m with mn:=true,first:=true})) rfl rfl rfl λw h=>?_);refine ac (aA h b (ad.ig n1 n2 n3 n4 n5 n6 ({m with mn:=true,first:=true,kj:=bJ (gO s) (kO s)})) rfl rfl rfl λw h=>?_);refine aM h λw h=>ac (ac (ah h rfl (ah h rfl (ac ?_))));refine aA h b (ad.ig n1 n2 n3 n4 n5 n6 ({m with mn:=true,first:=true,kj:=bJ (gO s) (kO s),gP:=if m.cN>m.gP then m.cN else m.gP})) rfl rfl rfl λw h=>?_;exact h.aI
   have c:¬(gT s>0∧m.mn=false):=cC;refine ac (ah h rfl ?_);refine ae (λc2=>?_) λc2=>?_
   ·have c2:m.mn=true:=c2;have e:bz m s o=if gO s<m.kj then{m with first:=m.first&&!o}else kF {m with first:=m.first&&!o}:=by unfold bz;rw[ay c,aG c2]
    rw[e];refine ac (ah h rfl (ac ?_));refine aA h b (ad.ig n1 n2 n3 n4 n5 n6 ({m with first:=m.first&&!o})) rfl rfl rfl λw h=>?_;refine aM h λw h=>ah h rfl (ac (ah h rfl ?_));refine ae (λc3=>?_) λc3=>?_
    ·have c3:gO s<m.kj:=(by simpa using c3);rw[aG c3];exact h.aI
    have c3:¬gO s<m.kj:=(by simpa using c3);rw[ay c3];have h:au w0 S R w ((af b (ad.ig n1 n2 n3 n4 n5 n6 (({m with first:=m.first&&!o})))^af n1 (ad.gD (({m with first:=m.first&&!o}).w))^af n2 (ad.jK (({m with first:=m.first&&!o}).r))^af n3 (ad.jA (({m with first:=m.first&&!o}).p))^af n4 (ad.iV (({m with first:=m.first&&!o}).c))^af n5 (ad.jk (({m with first:=m.first&&!o}).b))^af n6 (ad.gz (({m with first:=m.first&&!o}).q)))^af x (Ks.mk aW s)):=h.aI;generalize{m with first:=m.first&&!o}=u at*
    refine ac (aA h b (ad.ig n1 n2 n3 n4 n5 n6 ({u with mn:=false})) rfl rfl rfl λw h=>?_);refine ac (aA h b (ad.ig n1 n2 n3 n4 n5 n6 ({u with mn:=false,first:=false})) rfl rfl rfl λw h=>?_);refine ac (ah h rfl ?_);refine ae (λc4=>?_) λc4=>?_
    ·have c4:u.mode≠3:=(by simpa using c4);have e:kF u=gw {u with mn:=false,first:=false}:=(by unfold kF;rw[aG c4]);rw[e];refine ar (rW b n1 n2 n3 n4 n5 n6 {u with mn:=false,first:=false}) h λ_ w h=>?_;exact h.aI
    ·have c4:¬u.mode≠3:=(by simpa using c4);have e:kF u={u with mn:=false,first:=false}:=(by unfold kF;rw[ay c4]);rw[e];exact h.aI
   ·have c2:m.mn=false:=c2;have e:bz m s o=m:=(by unfold bz;rw[ay c,ay (by rw[c2];simp)]);rw[e];exact h.aI
  ·refine ah h rfl ?_;refine ae (λc=>?_) λc=>?_
   ·have c:gT s>0:=cC;refine ac (ah h rfl ?_);exact⟨by rw[jG];simp[c],h⟩
   ·have c:¬gT s>0:=cC;exact⟨by simp[c],h⟩
omit hs in
theorem zU:bu (Vn (some ⟨b,0⟩)) (af b (ad.ig n1 n2 n3 n4 n5 n6 m)^af n1 (ad.gD m.w)^af n2 (ad.jK m.r)^af n3 (ad.jA m.p)^af n4 (ad.iV m.c)^af n5 (ad.jk m.b)^af n6 (ad.gz m.q)) (λ_=>af b (ad.ig n1 n2 n3 n4 n5 n6 ((dT m)))^af n1 (ad.gD ((dT m).w))^af n2 (ad.jK ((dT m).r))^af n3 (ad.jA ((dT m).p))^af n4 (ad.iV ((dT m).c))^af n5 (ad.jk ((dT m).b))^af n6 (ad.gz ((dT m).q))):=
 bC λw0 S R h=>by
  have h:au w0 S R w0 ((af b (ad.ig n1 n2 n3 n4 n5 n6 m)^af n1 (ad.gD m.w)^af n2 (ad.jK m.r)^af n3 (ad.jA m.p)^af n4 (ad.iV m.c)^af n5 (ad.jk m.b)^af n6 (ad.gz m.q))^bg):=h.le (aJ _);repeat' (first
   |(refine aM h λw h=>?_)
   |(refine ac ?_)
   |(refine aw h rfl ?_)
   |(refine ah h rfl ?_)
   |(refine aO h ?_)
   |(refine aN h rfl ?_)
   |(refine az h (by rfl) λw h=>?_)
   |(refine aD h λn w h=>?_)
   |(refine aT h λw h=>?_)
   |(refine bh h rfl λw h=>?_;dsimp only[dE,over]at h)
   |(refine ar (y9 b n1 n2 n3 n4 n5 n6 m) h λr w h=>?_;obtain⟨hr,h⟩:=h.aP;(try dsimp only at hr h);try rw[hr]))
  refine ae (λc=>?_) λc=>?_
  ·have c:zJ m=0:=cC;have e:dT m=m:=(by unfold dT;rw[aG c]);rw[e];exact h.aI
  have c:¬zJ m=0:=cC;repeat' (first
   |(refine aM h λw h=>?_)
   |(refine ac ?_)
   |(refine aw h rfl ?_)
   |(refine ah h rfl ?_)
   |(refine aO h ?_)
   |(refine aN h rfl ?_)
   |(refine az h (by rfl) λw h=>?_)
   |(refine aD h λn w h=>?_)
   |(refine aT h λw h=>?_)
   |(refine bh h rfl λw h=>?_;dsimp only[dE,over]at h)
   |(refine ar (y9 b n1 n2 n3 n4 n5 n6 m) h λr w h=>?_;obtain⟨hr,h⟩:=h.aP;(try dsimp only at hr h);try rw[hr])
   |(refine ar (BS b n1 n2 n3 n4 n5 n6 m) h λr w h=>?_;obtain⟨hr,h⟩:=h.aP;(try dsimp only at hr h);try rw[hr])
   |(refine ar (wc (zJ m) (fF m) hm.bw (Ge m)) h λr w h=>?_;obtain⟨hr,h⟩:=h.aP;(try dsimp only at hr h);try rw[hr]))
  have e:dT m=if m.p.full=true∨Kw m>m.ba then{m with ba:=Kw m}else m:=by unfold dT;rw[ay c]
  rw[e];have h:au w0 S R _ (af b (ad.ig n1 n2 n3 n4 n5 n6 m)^af n1 (ad.gD m.w)^af n2 (ad.jK m.r)^af n3 (ad.jA m.p)^af n4 (ad.iV m.c)^af n5 (ad.jk m.b)^af n6 (ad.gz m.q)):=h.aI;refine aQ h (λ_=>af b (ad.ig n1 n2 n3 n4 n5 n6 m)^af n1 (ad.gD m.w)^af n2 (ad.jK m.r)^af n3 (ad.jA m.p)^af n4 (ad.iV m.c)^af n5 (ad.jk m.b)^af n6 (ad.gz m.q)) (λy:Bool=>y=decide (m.p.full=true∨Kw m>m.ba)) (λ(y:Bool) w hy h=>?_) ?_
  ·rw[hy];refine ae (λc2=>?_) λc2=>?_
   ·have c2:m.p.full=true∨Kw m>m.ba:=gK;rw[aG c2];refine ac (aA h b (ad.ig n1 n2 n3 n4 n5 n6 ({m with ba:=Kw m})) rfl rfl rfl λw h=>?_);exact h.aI
   ·have c2:¬(m.p.full=true∨Kw m>m.ba):=gK;rw[ay c2];exact h.aI
  ·repeat' (first
    |(refine aM h λw h=>?_)
    |(refine ac ?_)
    |(refine aw h rfl ?_)
    |(refine ah h rfl ?_)
    |(refine aO h ?_)
    |(refine aN h rfl ?_)
    |(refine az h (by rfl) λw h=>?_)
    |(refine aD h λn w h=>?_)
    |(refine aT h λw h=>?_)
    |(refine bh h rfl λw h=>?_;dsimp only[dE,over]at h)
    |(refine ar (qf n3 m.p) h λr w h=>?_;obtain⟨hr,h⟩:=h.aP;(try dsimp only at hr h);try rw[hr]))
   refine ae (λc2=>?_) λc2=>?_
   ·have c2:m.p.full=true:=c2;exact⟨by simp[c2],h.aI⟩
   ·have c2:m.p.full=false:=c2;repeat' (first
     |(refine aM h λw h=>?_)
     |(refine ac ?_)
     |(refine aw h rfl ?_)
     |(refine ah h rfl ?_)
     |(refine aO h ?_)
     |(refine aN h rfl ?_)
     |(refine az h (by rfl) λw h=>?_)
     |(refine aD h λn w h=>?_)
     |(refine aT h λw h=>?_)
     |(refine bh h rfl λw h=>?_;dsimp only[dE,over]at h))
    exact⟨by rw[jG];simp[c2,Kw],h.aI⟩
end
end Tu

namespace Tv
open bH bp _root_.Go.X.Target gM fK Js Jt LA Jq Jr Tu
section
variable (b n1 n2 n3 n4 n5 n6:Nat) (m:Md) (hm:gr m) (s:Sm) (hs:oi s) (tso:Int) (ht:U tso)
include hm hs ht
theorem Ie:bu (Vp (some ⟨b,0⟩) s tso) (af b (ad.ig n1 n2 n3 n4 n5 n6 m)^af n1 (ad.gD m.w)^af n2 (ad.jK m.r)^af n3 (ad.jA m.p)^af n4 (ad.iV m.c)^af n5 (ad.jk m.b)^af n6 (ad.gz m.q)) (λ_=>af b (ad.ig n1 n2 n3 n4 n5 n6 ((eO m s tso)))^af n1 (ad.gD ((eO m s tso).w))^af n2 (ad.jK ((eO m s tso).r))^af n3 (ad.jA ((eO m s tso).p))^af n4 (ad.iV ((eO m s tso).c))^af n5 (ad.jk ((eO m s tso).b))^af n6 (ad.gz ((eO m s tso).q))):=
 bC λw0 S R h=>by
  refine aD h λx w h=>?_;have h:au w0 S R w ((af b (ad.ig n1 n2 n3 n4 n5 n6 m)^af n1 (ad.gD m.w)^af n2 (ad.jK m.r)^af n3 (ad.jA m.p)^af n4 (ad.iV m.c)^af n5 (ad.jk m.b)^af n6 (ad.gz m.q))^af x (Ks.mk aW s)^bg):=h.aI;refine aM h λw h=>ac (ah h rfl (ac (ah h rfl (ah h rfl ?_))));refine aK (jg m.cN (gT s) hm.cN hs.bo) h λw h=>?_;refine aN h rfl ?_;refine ac (aA h b (ad.ig n1 n2 n3 n4 n5 n6 ((yi m s))) rfl rfl rfl λw h=>?_);have e:eO m s tso=Kx (Ed (tY (yi m s) s tso)):=rfl;rw[e];have h:au w0 S R w ((af b (ad.ig n1 n2 n3 n4 n5 n6 ((yi m s)))^af n1 (ad.gD ((yi m s).w))^af n2 (ad.jK ((yi m s).r))^af n3 (ad.jA ((yi m s).p))^af n4 (ad.iV ((yi m s).c))^af n5 (ad.jk ((yi m s).b))^af n6 (ad.gz ((yi m s).q)))^af x (Ks.mk aW s)):=h.aI;have hu:=hm.w1 hs;generalize yi m s=u at*
  refine aQ h (λ_=>(af b (ad.ig n1 n2 n3 n4 n5 n6 ((tY u s tso)))^af n1 (ad.gD ((tY u s tso).w))^af n2 (ad.jK ((tY u s tso).r))^af n3 (ad.jA ((tY u s tso).p))^af n4 (ad.iV ((tY u s tso).c))^af n5 (ad.jk ((tY u s tso).b))^af n6 (ad.gz ((tY u s tso).q)))^af x (Ks.mk aW s)) (λ_=>True) (λ_ w _ h=>?_) ?_
  ·have hv:=hu.w2 hs ht;generalize tY u s tso=v at*
   refine aM h λw h=>ac (ah h rfl ?_);refine aK (w5 b n1 n2 n3 n4 n5 n6 v hv) h λw h=>?_;refine aN h rfl ?_;refine ac (aA h b (ad.ig n1 n2 n3 n4 n5 n6 ((Ed v))) rfl rfl rfl λw h=>?_);refine ac (ah h rfl ?_);have h:au w0 S R w ((af b (ad.ig n1 n2 n3 n4 n5 n6 ((Ed v)))^af n1 (ad.gD ((Ed v).w))^af n2 (ad.jK ((Ed v).r))^af n3 (ad.jA ((Ed v).p))^af n4 (ad.iV ((Ed v).c))^af n5 (ad.jk ((Ed v).b))^af n6 (ad.gz ((Ed v).q)))^af x (Ks.mk aW s)):=h.aI;have hy:=hv.w3;generalize Ed v=y at*
   refine ae (λc=>?_) λc=>?_
   ·have c:y.mode=3:=cC;have e:Kx y={y with cN:=jw y}:=(by unfold Kx;rw[aG c]);rw[e];refine aK (w5 b n1 n2 n3 n4 n5 n6 y hy) h λw h=>?_;refine ac (aA h b (ad.ig n1 n2 n3 n4 n5 n6 ({y with cN:=jw y})) rfl rfl rfl λw h=>?_);exact h.aI
   ·have c:¬y.mode=3:=cC;have e:Kx y=y:=(by unfold Kx;rw[ay c]);rw[e];exact h.aI
  ·refine ac (ah h rfl ?_);refine ae (λc=>?_) λc=>?_
   ·have c:u.first=true:=c;have e:tY u s tso={u with cN:=if bJ (kO s) (fE s)>u.cN then bJ (kO s) (fE s)else u.cN}:=(by unfold tY;rw[aG c]);rw[e];refine aM h λw h=>ac (ah h rfl (ah h rfl (ah h rfl ?_)));refine aK (e_ (kO s) (fE s) hs.W8 hs.Ep) (h.le (bi Le.rfl (aJ _))) λw h=>?_;refine aN h rfl (ac ?_);refine aA h b (ad.ig n1 n2 n3 n4 n5 n6 ({u with cN:=if bJ (kO s) (fE s)>u.cN then bJ (kO s) (fE s)else u.cN})) rfl rfl rfl λw h=>?_;exact⟨trivial,h.aI⟩
   have c:¬u.first=true:=(by rw[show u.first=false from c];simp);refine ah h rfl ?_;refine ae (λc2=>?_) λc2=>?_
   ·have c2:fE s>0:=gK;have e:tY u s tso=if u.p.full then{u with cN:=if ox u tso<bJ u.cN (fE s)then ox u tso else bJ u.cN (fE s)}
      else if u.cN<ox u tso∨gO s<10*u.bt then{u with cN:=bJ u.cN (fE s)}else u:=by unfold tY;rw[ay c,aG c2]
    rw[e];have h:au w0 S R w ((af b (ad.ig n1 n2 n3 n4 n5 n6 u)^af n1 (ad.gD u.w)^af n2 (ad.jK u.r)^af n3 (ad.jA u.p)^af n4 (ad.iV u.c)^af n5 (ad.jk u.b)^af n6 (ad.gz u.q))^af x (Ks.mk aW s)^bg):=h.le (bi Le.rfl (aJ _));repeat' (first
     |(refine aM h λw h=>?_)
     |(refine ac ?_)
     |(refine aw h rfl ?_)
     |(refine ah h rfl ?_)
     |(refine aO h ?_)
     |(refine aN h rfl ?_)
     |(refine az h (by rfl) λw h=>?_)
     |(refine aD h λn w h=>?_)
     |(refine aT h λw h=>?_)
     |(refine bh h rfl λw h=>?_;dsimp only[dE,over]at h)
     |(refine ar (y9 b n1 n2 n3 n4 n5 n6 u) h λr w h=>?_;obtain⟨hr,h⟩:=h.aP;(try dsimp only at hr h);try rw[hr])
     |(refine ar (pZ n5 u.b) h λr w h=>?_;obtain⟨hr,h⟩:=h.aP;(try dsimp only at hr h);try rw[hr])
     |(refine ar (Lq b n1 n2 n3 n4 n5 n6 u) h λr w h=>?_;obtain⟨hr,h⟩:=h.aP;(try dsimp only at hr h);try rw[hr])
     |(refine ar (Target.Sv (zJ u) u.b.dy (jY u) tso u.bt hu.bw hu.b.dy (Gg u) ht hu.Rt) h λr w h=>?_;obtain⟨hr,h⟩:=h.aP;(try dsimp only at hr h);try rw[hr])
     |(refine ar (qf n3 u.p) h λr w h=>?_;obtain⟨hr,h⟩:=h.aP;(try dsimp only at hr h);try rw[hr]))
    refine ae (λc3=>?_) λc3=>?_
    ·have c3:u.p.full=true:=c3;rw[aG c3];refine aM h λw h=>ac (ah h rfl (ah h rfl ?_));refine aK (e_ u.cN (fE s) hu.cN hs.Ep) h λw h=>?_;refine ac ?_;refine aA h b (ad.ig n1 n2 n3 n4 n5 n6 ({u with cN:=if ox u tso<bJ u.cN (fE s)then ox u tso else bJ u.cN (fE s)})) rfl rfl rfl λw h=>?_;exact⟨trivial,h.aI⟩
    have c3:¬u.p.full=true:=(by rw[show u.p.full=false from c3];simp);rw[ay c3];have hms:=hu.bt;have h:au w0 S R _ ((af b (ad.ig n1 n2 n3 n4 n5 n6 u)^af n1 (ad.gD u.w)^af n2 (ad.jK u.r)^af n3 (ad.jA u.p)^af n4 (ad.iV u.c)^af n5 (ad.jk u.b)^af n6 (ad.gz u.q))^af x (Ks.mk aW s)^bg):=h.aI;refine aQ h (λ_=>(af b (ad.ig n1 n2 n3 n4 n5 n6 u)^af n1 (ad.gD u.w)^af n2 (ad.jK u.r)^af n3 (ad.jA u.p)^af n4 (ad.iV u.c)^af n5 (ad.jk u.b)^af n6 (ad.gz u.q))^af x (Ks.mk aW s)^bg) (λy:Bool=>y=decide (u.cN<ox u tso∨gO s<10*u.bt)) (λ(y:Bool) w hy h=>?_) ?_
    ·rw[hy];refine ae (λc4=>?_) λc4=>?_
     ·have c4:u.cN<ox u tso∨gO s<10*u.bt:=(by simpa using c4);rw[aG c4];refine aM h λw h=>ac (ah h rfl (ah h rfl ?_));refine aK (e_ u.cN (fE s) hu.cN hs.Ep) h λw h=>?_;refine ac ?_;refine aA h b (ad.ig n1 n2 n3 n4 n5 n6 ({u with cN:=bJ u.cN (fE s)})) rfl rfl rfl λw h=>?_;exact⟨trivial,h.aI⟩
     ·have c4:¬(u.cN<ox u tso∨gO s<10*u.bt):=(by simpa using c4);rw[ay c4];exact⟨trivial,h.aI⟩
    ·refine aM h λw h=>ac (ah h rfl ?_);refine ae (λc4=>?_) λc4=>?_
     ·have c4:u.cN<ox u tso:=bV c4;exact⟨by simp[c4],h⟩
     ·have c4:¬u.cN<ox u tso:=bY c4;refine ah h rfl (ac (ah h rfl ?_));rw[ja (n:=10*u.bt)];exact⟨by rw[jG];simp[c4],h⟩
   ·have c2:¬fE s>0:=gK;have e:tY u s tso=u:=(by unfold tY;rw[ay c,ay c2]);rw[e];exact⟨trivial,h⟩
theorem Sq:bu (Qr (some ⟨b,0⟩) s tso) (af b (ad.ig n1 n2 n3 n4 n5 n6 m)^af n1 (ad.gD m.w)^af n2 (ad.jK m.r)^af n3 (ad.jA m.p)^af n4 (ad.iV m.c)^af n5 (ad.jk m.b)^af n6 (ad.gz m.q)) (λr=>bs (r=GW (pM m s tso)) (af b (ad.ig n1 n2 n3 n4 n5 n6 ((pM m s tso)))^af n1 (ad.gD ((pM m s tso).w))^af n2 (ad.jK ((pM m s tso).r))^af n3 (ad.jA ((pM m s tso).p))^af n4 (ad.iV ((pM m s tso).c))^af n5 (ad.jk ((pM m s tso).b))^af n6 (ad.gz ((pM m s tso).q)))):=
 bC λw0 S R h=>by
  refine aD h λx w h=>?_;refine aD h λy w h=>?_;refine ae (λc=>(by cases c)) λ_=>?_;have h:au w0 S R w ((af b (ad.ig n1 n2 n3 n4 n5 n6 m)^af n1 (ad.gD m.w)^af n2 (ad.jK m.r)^af n3 (ad.jA m.p)^af n4 (ad.iV m.c)^af n5 (ad.jk m.b)^af n6 (ad.gz m.q))^af x (Ks.mk aW s)^af y [aE 0,aE 0,aB 0,aB 0,aB 0,aB 0,aB 0,aB 0,bc false,bc false]):=h.aI;refine aM h λw h=>aw (x:=s) h rfl (ac (ah h rfl ?_));refine aK (AP n2 m.r s) h λw h=>?_;refine aM h λw h=>aw (x:=s) h rfl (ac (ah h rfl ?_));refine ar (Nn n6 m.q hm.q (rB m.r s) s hs) h λ_ w h=>?_;refine aw (x:=s) h rfl ?_;have e:pM m s tso=Np (Rn (Ec m s) (rB m.r s) s) (rB m.r s) s tso:=rfl;rw[e];have h:au w0 S R w ((af b (ad.ig n1 n2 n3 n4 n5 n6 ((Ec m s)))^af n1 (ad.gD ((Ec m s).w))^af n2 (ad.jK ((Ec m s).r))^af n3 (ad.jA ((Ec m s).p))^af n4 (ad.iV ((Ec m s).c))^af n5 (ad.jk ((Ec m s).b))^af n6 (ad.gz ((Ec m s).q)))^af x (Ks.mk aW s)^af y [aE 0,aE 0,aB 0,aB 0,aB 0,aB 0,aB 0,aB 0,bc false,bc false]):=h.aI;have h1:=hm.u1 hs;generalize rB m.r s=o at*
  generalize Ec m s=u at*
  refine ar (Nr b n1 n2 n3 n4 n5 n6 u h1 s hs) h λ_ w h=>?_;have h2:=h1.Rp hs;have e:Rn u o s=mz (tm (rD (kG (iD (fh u s) s) o s)) s) s o:=rfl;rw[e];generalize fh u s=v at*
  have h:au w0 S R w ((af b (ad.ig n1 n2 n3 n4 n5 n6 v)^af n1 (ad.gD v.w)^af n2 (ad.jK v.r)^af n3 (ad.jA v.p)^af n4 (ad.iV v.c)^af n5 (ad.jk v.b)^af n6 (ad.gz v.q))^af x (Ks.mk aW s)^af y [aE 0,aE 0,aB 0,aB 0,aB 0,aB 0,aB 0,aB 0,bc false,bc false]):=h.aI;refine aQ h (λ_=>(af b (ad.ig n1 n2 n3 n4 n5 n6 ((iD v s)))^af n1 (ad.gD ((iD v s).w))^af n2 (ad.jK ((iD v s).r))^af n3 (ad.jA ((iD v s).p))^af n4 (ad.iV ((iD v s).c))^af n5 (ad.jk ((iD v s).b))^af n6 (ad.gz ((iD v s).q)))^af x (Ks.mk aW s)^af y [aE 0,aE 0,aB 0,aB 0,aB 0,aB 0,aB 0,aB 0,bc false,bc false]) (λ_=>True) (λ_ w _ h=>?_) ?_
  ·have h3:=h2.XR hs;generalize iD v s=z at*
   repeat' (first
    |(refine aM h λw h=>?_)
    |(refine ac ?_)
    |(refine aw h rfl ?_)
    |(refine ah h rfl ?_)
    |(refine aO h ?_)
    |(refine aN h rfl ?_)
    |(refine az h (by rfl) λw h=>?_)
    |(refine aD h λn w h=>?_)
    |(refine aT h λw h=>?_)
    |(refine bh h rfl λw h=>?_;dsimp only[dE,over]at h)
    |(refine ar (y5 n1 z.w) h λr w h=>?_;obtain⟨hr,h⟩:=h.aP;(try dsimp only at hr h);try rw[hr])
    |(refine ar (NT n3 z.p h3.p o (rG s) z.w.v0 h3.w.v0) h λr w h=>?_;obtain⟨hr,h⟩:=h.aP;(try dsimp only at hr h);try rw[hr]))
   have h4:gr (kG z o s):=h3.pipe;have h:au w0 S R _ ((af b (ad.ig n1 n2 n3 n4 n5 n6 ((kG z o s)))^af n1 (ad.gD ((kG z o s).w))^af n2 (ad.jK ((kG z o s).r))^af n3 (ad.jA ((kG z o s).p))^af n4 (ad.iV ((kG z o s).c))^af n5 (ad.jk ((kG z o s).b))^af n6 (ad.gz ((kG z o s).q)))^af x (Ks.mk aW s)^af y [aE 0,aE 0,aB 0,aB 0,aB 0,aB 0,aB 0,aB 0,bc false,bc false]):=h.aI;generalize kG z o s=a at*
   refine ar (KA b n1 n2 n3 n4 n5 n6 a h4 s hs) h λ_ w h=>?_;have h5:=h4.m1.m2 hs;generalize tm (rD a) s=a at*
   refine aw (x:=s) h rfl ?_;refine ar (Nj b n1 n2 n3 n4 n5 n6 a h5 s hs o) h λ_ w h=>?_;have h6:gr (mz a s o):=h5.look hs;generalize mz a s o=a at*
   refine ar (zU b n1 n2 n3 n4 n5 n6 a h6) h λ_ w h=>?_;have e:Np a o s tso=eO (bz (dT a) s o) s tso:=rfl;rw[e];have h7:=h6.RK;generalize dT a=a at*
   refine aw (x:=s) h rfl ?_;refine ar (RU b n1 n2 n3 n4 n5 n6 a h7 s hs o) h λ_ w h=>?_;have h8:gr (bz a s o):=h7.recover hs;generalize bz a s o=a at*
   refine aw (x:=s) h rfl ?_;refine ar (Ie b n1 n2 n3 n4 n5 n6 a h8 s hs tso ht) h λ_ w h=>?_;generalize eO a s tso=a at*
   refine aK (Co b n1 n2 n3 n4 n5 n6 a) h λw h=>?_;refine az h (by rfl) λw h=>?_;refine aw (x:=GW a) h rfl ?_;exact au.aH rfl h.aI
  ·refine aQ h (λ_=>(af b (ad.ig n1 n2 n3 n4 n5 n6 v)^af n1 (ad.gD v.w)^af n2 (ad.jK v.r)^af n3 (ad.jA v.p)^af n4 (ad.iV v.c)^af n5 (ad.jk v.b)^af n6 (ad.gz v.q))^af x (Ks.mk aW s)^af y [aE 0,aE 0,aB 0,aB 0,aB 0,aB 0,aB 0,aB 0,bc false,bc false]) (λy:Bool=>y=decide (v.mode=2∧v.q.jh=false)) (λ(y:Bool) w hy h=>?_) ?_
   ·rw[hy];refine ae (λc=>?_) λc=>?_
    ·have c:v.mode=2∧v.q.jh=false:=cC;have e:iD v s={v with c:=cU v.c (iT s) v.b.dy (gT s) (kO s) (sv v 320) (sv v 256)}:=(by unfold iD;rw[aG c]);rw[e];repeat' (first
      |(refine aM h λw h=>?_)
      |(refine ac ?_)
      |(refine aw h rfl ?_)
      |(refine ah h rfl ?_)
      |(refine aO h ?_)
      |(refine aN h rfl ?_)
      |(refine az h (by rfl) λw h=>?_)
      |(refine aD h λn w h=>?_)
      |(refine aT h λw h=>?_)
      |(refine bh h rfl λw h=>?_;dsimp only[dE,over]at h)
      |(refine ar (pZ n5 v.b) h λr w h=>?_;obtain⟨hr,h⟩:=h.aP;(try dsimp only at hr h);try rw[hr])
      |(refine ar (y4 b n1 n2 n3 n4 n5 n6 v h2 320 (bm _)) h λr w h=>?_;obtain⟨hr,h⟩:=h.aP;(try dsimp only at hr h);try rw[hr])
      |(refine ar (y4 b n1 n2 n3 n4 n5 n6 v h2 256 (bm _)) h λr w h=>?_;obtain⟨hr,h⟩:=h.aP;(try dsimp only at hr h);try rw[hr]))
     refine ar (My n4 v.c h2.c (iT s) v.b.dy (gT s) (kO s) (sv v 320) (sv v 256) hs.aj) h λ_ w h=>?_;exact⟨trivial,h.aI⟩
    ·have c:¬(v.mode=2∧v.q.jh=false):=cC;have e:iD v s=v:=(by unfold iD;rw[ay c]);rw[e];exact⟨trivial,h.aI⟩
   ·repeat' (first
     |(refine aM h λw h=>?_)
     |(refine ac ?_)
     |(refine aw h rfl ?_)
     |(refine ah h rfl ?_)
     |(refine aO h ?_)
     |(refine aN h rfl ?_)
     |(refine az h (by rfl) λw h=>?_)
     |(refine aD h λn w h=>?_)
     |(refine aT h λw h=>?_)
     |(refine bh h rfl λw h=>?_;dsimp only[dE,over]at h))
    refine ae (λc=>?_) λc=>?_
    ·have c:v.mode=2:=cC;repeat' (first
      |(refine aM h λw h=>?_)
      |(refine ac ?_)
      |(refine aw h rfl ?_)
      |(refine ah h rfl ?_)
      |(refine aO h ?_)
      |(refine aN h rfl ?_)
      |(refine az h (by rfl) λw h=>?_)
      |(refine aD h λn w h=>?_)
      |(refine aT h λw h=>?_)
      |(refine bh h rfl λw h=>?_;dsimp only[dE,over]at h)
      |(refine ar (Df b n1 n2 n3 n4 n5 n6 v) h λr w h=>?_;obtain⟨hr,h⟩:=h.aP;(try dsimp only at hr h);try rw[hr]))
     exact⟨by rw[jG];simp[c],h.aI⟩
    ·have c:¬v.mode=2:=cC;exact⟨by simp[c],h.aI⟩
end
end Tv

namespace eY
open bH bp
abbrev Bf:=Int×Int×Int×Int
abbrev rh:Ks:=[.int .u64,.int .u64,.int .u64,.int .u64]
abbrev bW(b:Bf):Int:=b.1
abbrev bN(b:Bf):Int:=b.2.1
abbrev bU(b:Bf):Int:=b.2.2.1
abbrev bL(b:Bf):Int:=b.2.2.2
structure rR(b:Bf):Prop where
 u:0≤bU b
 un:bU b≤bN b
 nw:bN b≤bW b
 l:bW b-bU b≤bL b
 ll:bL b≤1073741824
 w:bW b≤4611686018427387904
def Bg(b:Bf)(n:Int):Int×Bf:=if n<1 then(1,b)else if n>bL b-(bW b-bU b)then(5,b)else(0,(bW b+n,bN b,bU b,bL b))
def lx(b:Bf)(most:Int):((Int×Int)×Bool)×Bf:=if most≥1∧bW b-bN b≠0 then(((bN b,bN b+min (bW b-bN b) most),true),(bW b,bN b+min (bW b-bN b) most,bU b,bL b))else(((0,0),false),b)
def tN(b:Bf)(upto:Int):Int×Bf:=if upto>bN b then(11,b)else(0,(bW b,bN b,if upto>bU b then upto else bU b,bL b))
theorem rR.ak(h:rR b)(upto:Int):rR (tN b upto).2:=by
 have h1:=h.u;have h2:=h.un;have h3:=h.nw;have h4:=h.l;unfold tN;split
 ·exact h
 ·refine⟨?_,?_,h3,?_,h.ll,h.w⟩
  ·show 0≤if upto>bU b then upto else bU b
   split<;>omega
  ·show(if upto>bU b then upto else bU b)≤bN b;split<;>omega
  ·show bW b-(if upto>bU b then upto else bU b)≤bL b;split<;>omega
theorem y6(n:Int):bu (TO n) bg (λr=>ex λp:Nat=>bs (r=some ⟨p,0⟩) (af p (Ks.mk rh (0,0,0,u64.wrap (if(1073741824:Int)<(if(0:Int)>n then(0:Int)else n)then(1073741824:Int)else(if(0:Int)>n then(0:Int)else n)))))):=
 bC λw0 S R h=>by
  refine aD h λp w h=>?_;exact au.ie p (au.aH rfl h.br)
theorem xK(p b)(hb:rR b):bu (Qt (some ⟨p,0⟩)) (af p (Ks.mk rh b)) (λr=>bs (r=bW b-bN b) (af p (Ks.mk rh b))):=
 bC λw0 S R h=>by
  have h2:=hb.un;have h3:=hb.nw;have h4:=hb.u;have h5:=hb.w;refine ae (λc=>(by simp at c)) λ_=>aM h λw h=>ac (ac (ah h rfl (ah h rfl ?_)));exact au.aH (ja (n:=bW b-bN b)) h
theorem JQ(p b)(hb:rR b):bu (UM (some ⟨p,0⟩)) (af p (Ks.mk rh b)) (λr=>bs (r=bW b-bU b) (af p (Ks.mk rh b))):=
 bC λw0 S R h=>by
  have h2:=hb.un;have h3:=hb.nw;have h4:=hb.u;have h5:=hb.w;refine ae (λc=>(by simp at c)) λ_=>aM h λw h=>ac (ac (ah h rfl (ah h rfl ?_)));exact au.aH (ja (n:=bW b-bU b)) h
theorem Gl(p b)(hb:rR b)(n:Int)(hn:n<9223372036854775808):bu (Ug (some ⟨p,0⟩) n) (af p (Ks.mk rh b)) (λr=>bs (r=(Bg b n).1) (af p (Ks.mk rh (Bg b n).2))):=
 bC λw0 S R h=>by
  have h1:=hb.un;have h2:=hb.nw;have h3:=hb.u;have h4:=hb.l;have h5:=hb.ll;have h6:=hb.w;refine ae (λc=>(by simp at c)) λ_=>ae (λc=>?_) λc=>?_
  ·have c:n<1:=bV c;have e:Bg b n=(1,b):=(by unfold Bg;rw[aG c]);rw[e];exact au.aH rfl h
  have c:¬n<1:=bY c;refine aM h λw h=>ac (ah h rfl (aK (JQ p b hb) h λw h=>?_));refine aN h rfl (ae (λc2=>?_) λc2=>?_)
  ·have c2:=bV c2;have c2:u64.wrap n>u64.wrap (bL b-(bW b-bU b)):=c2;rw[ja (n:=n),ja (n:=bL b-(bW b-bU b))]at c2;have e:Bg b n=(5,b):=(by unfold Bg;rw[ay c,aG c2]);rw[e];exact au.aH rfl h.aI
  ·have c2:=bY c2;have c2:¬u64.wrap n>u64.wrap (bL b-(bW b-bU b)):=c2;rw[ja (n:=n),ja (n:=bL b-(bW b-bU b))]at c2;have e:Bg b n=(0,(bW b+n,bN b,bU b,bL b)):=(by unfold Bg;rw[ay c,ay c2]);rw[e];have ew:u64.wrap (bW b+u64.wrap n)=bW b+n:=(by rw[ja (n:=n)];exact ja);refine ac (ah h rfl (ac ?_));rw[show u64.wrap (b.1+u64.wrap n)=bW b+n from ew];refine aA h p (Ks.mk rh (bW b+n,bN b,bU b,bL b)) rfl rfl rfl λw h=>?_;exact au.aH rfl h.aI
theorem JR(p b)(hb:rR b)(most:Int)(hm:most<9223372036854775808):bu (EA (some ⟨p,0⟩) most) (af p (Ks.mk rh b)) (λr=>bs (r=(lx b most).1) (af p (Ks.mk rh (lx b most).2))):=
 bC λw0 S R h=>by
  have h1:=hb.un;have h2:=hb.nw;have h3:=hb.u;have h6:=hb.w;refine aD h λn1 w h=>aD h λn2 w h=>az h (by rfl) λw h=>?_;refine aQ h (λ_=>af n1 [aB 0,aB 0]^af n2 [aB (lx b most).1.1.1,aB (lx b most).1.1.2]^af p (Ks.mk rh (lx b most).2)) (λy:Bool=>y=(lx b most).1.2) (λ(y:Bool) w hy h=>?_) ?_
  ·refine aw (b:=n2) (x:=(lx b most).1.1) h rfl (az h (by rfl) λw h=>aw (b:=n1) (x:=(lx b most).1.1) h rfl ?_);refine au.aH ?_ h.aI;rw[hy]
  ·have no:∀{w:World},¬(most≥1∧bW b-bN b≠0)→au w0 S R w (af n1 [aB 0,aB 0]^af n2 [aB 0,aB 0]^af p (Ks.mk rh b))→(λy:Bool=>y=(lx b most).1.2) false∧au w0 S R w (af n1 [aB 0,aB 0]^af n2 [aB (lx b most).1.1.1,aB (lx b most).1.1.2]^af p (Ks.mk rh (lx b most).2)):=λ{w} c h=>by
    have e:lx b most=(((0,0),false),b):=(by unfold lx;rw[ay c]);rw[e];exact⟨rfl,h⟩
   have h:au w0 S R w (af n1 [aB 0,aB 0]^af n2 [aB 0,aB 0]^af p (Ks.mk rh b)):=h.aI;refine cS (λ_:Bool=>af n1 [aB 0,aB 0]^af n2 [aB 0,aB 0]^af p (Ks.mk rh b)) (λy:Bool=>y=false) (λ_=>0) h rfl ?_;rintro(y:Bool) w hy h;rw[hy];refine ae (λc=>?_) λc=>?_
   ·have c:most≥1:=bV c;refine aK (xK p b hb) h λw h=>?_;have ek:(if bW b-bN b<u64.wrap most then bW b-bN b else u64.wrap most)=min (bW b-bN b) most:=by
     rw[ja (n:=most)];split<;>omega
    rw[ek];refine ae (λc2=>?_) λc2=>?_
    ·have c2:min (bW b-bN b) most=0:=gK;exact no (by omega) h.aI
    ·have c2:¬min (bW b-bN b) most=0:=gK;have e:lx b most=(((bN b,bN b+min (bW b-bN b) most),true),(bW b,bN b+min (bW b-bN b) most,bU b,bL b)):=(by unfold lx;rw[aG ⟨c,by omega⟩]);have ew:u64.wrap (bN b+min (bW b-bN b) most)=bN b+min (bW b-bN b) most:=ja;rw[e];refine aM h λw h=>ac (ac (ah h rfl (ah h rfl ?_)));rw[show u64.wrap (b.2.1+min (bW b-bN b) most)=bN b+min (bW b-bN b) most from ew];refine az h (by rfl) λw h=>ac (ah h rfl (ac ?_));rw[show u64.wrap (b.2.1+min (bW b-bN b) most)=bN b+min (bW b-bN b) most from ew];refine aA h p (Ks.mk rh (bW b,bN b+min (bW b-bN b) most,bU b,bL b)) rfl rfl rfl λw h=>?_;exact⟨rfl,h.aI⟩
   ·have c:¬most≥1:=bY c;exact no (λx=>c x.1) h
theorem Gi(p b)(upto:Int):bu (Uh (some ⟨p,0⟩) upto) (af p (Ks.mk rh b)) (λr=>bs (r=(tN b upto).1) (af p (Ks.mk rh (tN b upto).2))):=
 bC λw0 S R h=>by
  refine ae (λc=>(by simp at c)) λ_=>ac (ah h rfl (ae (λc=>?_) λc=>?_))
  ·have c:upto>bN b:=bV c;have e:tN b upto=(11,b):=(by unfold tN;rw[aG c]);rw[e];exact au.aH rfl h
  ·have c:¬upto>bN b:=bY c;have e:tN b upto=(0,(bW b,bN b,if upto>bU b then upto else bU b,bL b)):=(by unfold tN;rw[ay c]);rw[e];refine ac (ah h rfl (ac (aA h p (Ks.mk rh (bW b,bN b,if upto>bU b then upto else bU b,bL b)) rfl rfl rfl λw h=>?_)));exact au.aH rfl h.aI
end eY

namespace fV
open bH bp
abbrev Sp:=Int×Int×Int×Int×Bool×Int×Int×Int×Bool×Int×Int
abbrev nQ:Ks:=[.int .u64,.int .u64,.int .u64,.int .u64,.bool,.int .u64,.int .u64,.int .u64,.bool,.int .u64,.int .u64]
abbrev Zb:Ks:=[.int .u64,.int .u64,.int .u64,.int .u64,.bool]
abbrev Sn:=Int×Int×Int×Int×Bool
abbrev Tw:Ks:=[.int .u64,.int .u64,.int .u64,.int .u64,.int .u64,.int .u64,.int .u64,.int .u64,.bool]
abbrev Sa:=Int×Int×Int×Int×Int×Int×Int×Int×Bool
abbrev pD(s:Sp):Int:=s.1
abbrev pT(s:Sp):Int:=s.2.1
abbrev pF(s:Sp):Int:=s.2.2.1
abbrev pL(s:Sp):Int:=s.2.2.2.1
abbrev pH(s:Sp):Bool:=s.2.2.2.2.1
abbrev pG(s:Sp):Int:=s.2.2.2.2.2.1
abbrev oJ(s:Sp):Int:=s.2.2.2.2.2.2.1
abbrev nI(s:Sp):Int:=s.2.2.2.2.2.2.2.1
abbrev ob(s:Sp):Bool:=s.2.2.2.2.2.2.2.2.1
abbrev m_(s:Sp):Int:=s.2.2.2.2.2.2.2.2.2.1
abbrev nH(s:Sp):Int:=s.2.2.2.2.2.2.2.2.2.2
structure pW(s:Sp):Prop where
 d:U (pD s)
 t:U (pT s)
 f:U (pF s)
 l:U (pL s)
 g:U (pG s)
 pd:U (oJ s)
 pt:U (nI s)
 si:U (m_ s)
 ai:U (nH s)
def Ym:Sp:=(0,0,0,0,false,0,0,0,false,0,0)
theorem Ws:pW Ym:=⟨bm 0,bm 0,bm 0,bm 0,bm 0,bm 0,bm 0,bm 0,bm 0⟩
def gU(s:Sp)(aj flight:Int):Sp:=if flight=0 then(pD s,aj,aj,pL s,pH s,pG s,oJ s,nI s,ob s,m_ s,nH s)else s
def jI(s:Sp)(aj flight:Int):Sn×Sp:=((aj,pD (gU s aj flight),pT (gU s aj flight),pF (gU s aj flight),decide (pL (gU s aj flight)≠0)),gU s aj flight)
def ow(s:Sp)(flight:Int):Sp:=(pD s,pT s,pF s,(if bJ (pD s) flight>1 then bJ (pD s) flight else 1),pH s,pG s,oJ s,nI s,ob s,m_ s,nH s)
def jz(a b:Int):Int:=if b≤(if a≤0 then 0 else a)then(if a≤0 then 0 else a)else b
def gh(s:Sp)(aj bo flight:Int):Sa×Sp:=(if pH s then(aj,pD s,oJ s,jz (m_ s) (dX aj (nI s)),nH s,pG s,bo,flight,ob s)else(aj,pD s,0,0,0,0,bo,flight,false),(pD s,pT s,pF s,pL s,false,0,0,0,false,0,0))
theorem jD:bu TQ bg (λr=>ex λp:Nat=>bs (r=some ⟨p,0⟩) (af p (Ks.mk nQ Ym))):=
 bC λw0 S R h=>by
  refine aD h λp w h=>?_;exact au.ie p (au.aH rfl h.br)
theorem sJ(p s)(aj flight:Int):bu (L8 (some ⟨p,0⟩) aj flight) (af p (Ks.mk nQ s)) (λr=>bs (r=(jI s aj flight).1) (af p (Ks.mk nQ (jI s aj flight).2))):=
 bC λw0 S R h=>by
  refine aD h λn1 w h=>ae (λc=>(by simp at c)) λ_=>?_;refine aQ h (λ_=>af n1 [aB 0,aB 0,aB 0,aB 0,bc false]^af p (Ks.mk nQ (gU s aj flight))) (λ_=>True) (λ_ w _ h=>?_) ?_
  ·refine aM h λw h=>ac (ac (ac (ac (ah h rfl (ah h rfl (ah h rfl (ah h rfl ?_)))))));have eb:((gU s aj flight).2.2.2.1 !=(0:Int))=decide (pL (gU s aj flight)≠0):=by rw[jG];simp
   rw[eb];refine az h (by rfl) λw h=>aw (b:=n1) (x:=(jI s aj flight).1) h rfl ?_;refine au.aH rfl ?_;rw[show(jI s aj flight).2=gU s aj flight from rfl];exact h.aI
  ·refine ae (λc=>?_) λc=>?_
   ·have c:flight=0:=cC;have e:gU s aj flight=(pD s,aj,aj,pL s,pH s,pG s,oJ s,nI s,ob s,m_ s,nH s):=(by unfold gU;rw[aG c]);rw[e];refine ac (aA h p (Ks.mk nQ (pD s,pT s,aj,pL s,pH s,pG s,oJ s,nI s,ob s,m_ s,nH s)) rfl rfl rfl λw h=>?_);refine ac (aA h p (Ks.mk nQ (pD s,aj,aj,pL s,pH s,pG s,oJ s,nI s,ob s,m_ s,nH s)) rfl rfl rfl λw h=>?_);exact⟨trivial,h.aI⟩
   ·have c:¬flight=0:=cC;have e:gU s aj flight=s:=(by unfold gU;rw[ay c]);rw[e];exact⟨trivial,h⟩
theorem Kr(p s)(hs:pW s)(flight:Int)(hf:U flight):bu (UR (some ⟨p,0⟩) flight) (af p (Ks.mk nQ s)) (λ_=>af p (Ks.mk nQ (ow s flight))):=
 bC λw0 S R h=>by
  refine ae (λ_=>?_) λc=>(by simp at c);refine ac (ah h rfl (aK (e_ (pD s) flight hs.d hf) h λw h=>?_));refine ac (aA h p (Ks.mk nQ (ow s flight)) rfl rfl rfl λw h=>?_);exact h.aI
theorem E8(sl)(a b:Int):bu (Vq sl) (bg^aV sl KU [a,b]) (λr=>bs (r=jz a b) bg):=
 bC λw0 S R h=>by
  have h:au w0 S R w0 (aV sl KU [a,b]^bg):=h.aI;have hs:sl.len=2:=(h.rd (s:=sl)).2;have e1:i64.wrap ((0:Int)+1)=1:=rfl;have e2:i64.wrap ((1:Int)+1)=2:=rfl;obtain⟨m,hm⟩:∃m,m=if a≤0 then 0 else a:=⟨_,rfl⟩
  refine cS (λ_:Int×Int=>aV sl KU [a,b]^bg) (λy:Int×Int=>y=(0,0)∨y=(m,1)∨y=(jz a b,2)) (λy:Int×Int=>(2-y.2).toNat) h (.inl rfl) ?_;rintro(y:Int×Int) w hy h;rcases hy with rfl|rfl|rfl
  ·refine ae (λ_=>?_) λc=>(by rw[hs]at c;cases c);refine bS (s:=sl) h (by decide) (by simp) (dP h sl 0 (y:=a) rfl rfl ?_);dsimp only;rw[e1];refine ae (λc=>?_) λc=>?_
   ·have c:a≤0:=bV c;rw[aG c]at hm;exact⟨⟨.inr (.inl (by rw[hm])),h⟩,by show(2-(1:Int)).toNat<(2-(0:Int)).toNat;omega⟩
   ·have c:¬a≤0:=bY c;rw[ay c]at hm;exact⟨⟨.inr (.inl (by rw[hm])),h⟩,by show(2-(1:Int)).toNat<(2-(0:Int)).toNat;omega⟩
  ·refine ae (λ_=>?_) λc=>(by rw[hs]at c;cases c);refine bS (s:=sl) h (show(0:Int)≤1 by decide) (by show 1<2;decide) (dP h sl 1 (y:=b) rfl rfl ?_);dsimp only;rw[e2];refine ae (λc=>?_) λc=>?_
   ·have c:b≤m:=bV c;have e:jz a b=m:=(by unfold jz;rw[←hm,aG c]);exact⟨⟨.inr (.inr (by rw[e])),h⟩,by show(2-(2:Int)).toNat<(2-(1:Int)).toNat;omega⟩
   ·have c:¬b≤m:=bY c;have e:jz a b=b:=(by unfold jz;rw[←hm,ay c]);exact⟨⟨.inr (.inr (by rw[e])),h⟩,by show(2-(2:Int)).toNat<(2-(1:Int)).toNat;omega⟩
  ·refine ae (λc=>(by rw[hs]at c;cases c)) λ_=>?_;exact au.aH rfl h.gm
def bn(m:Int):Int:=if 9000<(if 100>m then 100 else m)then 9000 else(if 100>m then 100 else m)
theorem rZ(m:Int):100≤bn m∧bn m≤9000:=by unfold bn;(repeat' split)<;>omega
def wA(ba bt:Int):Int:=(if(if ba/1024/bn bt<2 then 2 else ba/1024/bn bt)>65536/bn bt then 65536/bn bt else(if ba/1024/bn bt<2 then 2 else ba/1024/bn bt))*bn bt
theorem sQ(ba bt:Int)(hr:0≤ba):200≤wA ba bt∧wA ba bt≤65536:=by
 have hm:=rZ bt;have hk:7≤65536/bn bt:=by rw[Dl (by omega)];omega
 have hk2:65536/bn bt*bn bt≤65536:=Int.ediv_mul_le _ (by omega);obtain⟨y,hy⟩:∃y,y=(if(if ba/1024/bn bt<2 then 2 else ba/1024/bn bt)>65536/bn bt then 65536/bn bt else(if ba/1024/bn bt<2 then 2 else ba/1024/bn bt)):=⟨_,rfl⟩;have hy2:2≤y∧y≤65536/bn bt:=by rw[hy];(repeat' split)<;>omega
 have e:wA ba bt=y*bn bt:=by unfold wA;rw[←hy]
 rw[e];have h1:2*bn bt≤y*bn bt:=NX hy2.1 (by omega);have h2:y*bn bt≤65536/bn bt*bn bt:=NX hy2.2 (by omega);omega
theorem Sj(ba bt:Int)(hr:U ba):bu (UX ba bt) bg (λr=>bs (r=wA ba bt) bg):=
 bC λw0 S R h=>by
  have hm:=rZ bt;unfold U at hr;have em:u64.wrap (if(9000:Int)<(if(100:Int)>bt then(100:Int)else bt)then(9000:Int)else(if(100:Int)>bt then(100:Int)else bt))=bn bt:=ja (n:=bn bt);rw[em];have ht:=sQ ba bt hr.1;have hk:7≤65536/bn bt:=by rw[Dl (by omega)];omega
  have hk9:65536/bn bt≤65536:=Ak _ (by decide);have eq1:u64.wrap (ba.tdiv 1024)=ba/1024:=by rw[mD hr.1];exact ja
  have hq0:0≤ba/1024/bn bt:=Dy (by omega) (by omega);have hq1:ba/1024/bn bt≤ba/1024:=Ak _ (by omega);have eq2:u64.wrap ((ba/1024).tdiv (bn bt))=ba/1024/bn bt:=by rw[mD (by omega)];exact ja
  have eq3:u64.wrap ((65536:Int).tdiv (bn bt))=65536/bn bt:=by rw[mD (by decide)];exact ja
  rw[eq1,eq2,eq3];obtain⟨y0,hy0⟩:∃y0,y0=ba/1024/bn bt:=⟨_,rfl⟩;obtain⟨k,hkk⟩:∃k,k=65536/bn bt:=⟨_,rfl⟩;have et:wA ba bt=(if(if y0<2 then 2 else y0)>k then k else(if y0<2 then 2 else y0))*bn bt:=by unfold wA;rw[←hy0,←hkk]
  rw[←hy0,←hkk];rw[←hkk]at hk hk9;refine⟨by omega,?_⟩;refine cS (λ_:Int=>bg) (λy:Int=>0≤y∧(if(if y<2 then 2 else y)>k then k else(if y<2 then 2 else y))=(if(if y0<2 then 2 else y0)>k then k else(if y0<2 then 2 else y0))) (λy:Int=>if y<2 then 2 else if y>k then 1 else 0) h ⟨by rw[hy0];exact hq0,rfl⟩ ?_;rintro(y:Int) w ⟨hy,hye⟩ h;refine ae (λc=>?_) λc=>?_
  ·have c:y<2:=bV c;refine⟨⟨⟨by decide,?_⟩,h⟩,?_⟩
   ·rw[←hye,aG c];rfl
   ·rw[aG c,ay (by decide),ay (by omega)];decide
  ·have c:¬y<2:=bY c;rw[ay c]at hye;refine⟨by omega,ae (λc2=>?_) λc2=>?_⟩
   ·have c2:y>k:=bV c2;rw[aG c2]at hye;refine⟨by omega,⟨⟨by omega,?_⟩,h⟩,?_⟩
    ·rw[ay (show ¬k<2 by omega),ay (by omega)];exact hye
    ·rw[ay (show ¬k<2 by omega),ay (by omega),ay c,aG c2];decide
   ·have c2:¬y>k:=bY c2;rw[ay c2]at hye;refine au.aH ?_ h;rw[et,←hye]at ht⊢;rw[ja (n:=y*bn bt),gi (n:=y*bn bt)]
def ik(ba tso most:Int):Int:=jz (2*tso) (if most<ba/1024 then most else ba/1024)
theorem JP(ba tso most:Int)(hr:U ba)(ht:0≤tso∧tso≤65536)(hm:-9223372036854775808≤most∧most<9223372036854775808):bu (UT ba tso most) bg (λr=>bs (r=ik ba tso most) bg):=
 bC λw0 S R h=>by
  unfold U at hr;have e1:i64.wrap ((0:Int)+1)=1:=rfl;have e2:i64.wrap ((1:Int)+1)=2:=rfl;have ea:u64.wrap ((2:Int)*(u64.wrap (if(0:Int)>tso then(0:Int)else tso)))=2*tso:=by
   rw[ay (by omega),ja (n:=tso)];exact ja
  have eb:(if(u64.wrap (if(0:Int)>most then(0:Int)else most))<(u64.wrap (ba.tdiv (1024:Int)))then(u64.wrap (if(0:Int)>most then(0:Int)else most))else(u64.wrap (ba.tdiv (1024:Int))))=if(if(0:Int)>most then(0:Int)else most)<ba/1024 then(if(0:Int)>most then(0:Int)else most)else ba/1024:=by rw[wu (n:=if(0:Int)>most then(0:Int)else most) (by split<;>omega) (by split<;>omega),mD hr.1,ja (n:=ba/1024)]
  rw[ea,eb];obtain⟨x,hx⟩:∃x,x=2*tso:=⟨_,rfl⟩;obtain⟨z,hz⟩:∃z,z=if(if(0:Int)>most then(0:Int)else most)<ba/1024 then(if(0:Int)>most then(0:Int)else most)else ba/1024:=⟨_,rfl⟩
  have eL:ik ba tso most=jz x z:=by
   unfold ik;rw[←hx];by_cases c:(0:Int)>most
   ·rw[aG c]at hz;have hz0:z=0:=by rw[hz];split<;>omega
    rw[hz0,aG (show most<ba/1024 by omega)];unfold jz;repeat' split
    all_goals omega
   ·rw[ay c]at hz;rw[←hz]
  rw[←hx,←hz,eL];obtain⟨m,hmm⟩:∃m,m=if x≤0 then 0 else x:=⟨_,rfl⟩
  refine cS (λ_:Int×Int=>bg) (λy:Int×Int=>y=(0,0)∨y=(m,1)∨y=(jz x z,2)) (λy:Int×Int=>(2-y.2).toNat) h (.inl rfl) ?_;rintro(y:Int×Int) w hy h;rcases hy with rfl|rfl|rfl
  ·refine ae (λ_=>?_) λc=>(by cases c);refine⟨⟨by show(0:Int)≤0;decide,by show(0:Int)<2;decide⟩,(x:Int),rfl,?_⟩;dsimp only;rw[e1];refine ae (λc=>?_) λc=>?_
   ·have c:x≤0:=bV c;rw[aG c]at hmm;exact⟨⟨.inr (.inl (by rw[hmm])),h⟩,by show(2-(1:Int)).toNat<(2-(0:Int)).toNat;omega⟩
   ·have c:¬x≤0:=bY c;rw[ay c]at hmm;exact⟨⟨.inr (.inl (by rw[hmm])),h⟩,by show(2-(1:Int)).toNat<(2-(0:Int)).toNat;omega⟩
  ·refine ae (λ_=>?_) λc=>(by cases c);refine⟨⟨by show(0:Int)≤1;decide,by show(1:Int)<2;decide⟩,(z:Int),rfl,?_⟩;dsimp only;rw[e2];refine ae (λc=>?_) λc=>?_
   ·have c:z≤m:=bV c;have e:jz x z=m:=(by unfold jz;rw[←hmm,aG c]);exact⟨⟨.inr (.inr (by rw[e])),h⟩,by show(2-(2:Int)).toNat<(2-(1:Int)).toNat;omega⟩
   ·have c:¬z≤m:=bY c;have e:jz x z=z:=(by unfold jz;rw[←hmm,ay c]);exact⟨⟨.inr (.inr (by rw[e])),h⟩,by show(2-(2:Int)).toNat<(2-(1:Int)).toNat;omega⟩
  ·refine ae (λc=>(by cases c)) λ_=>?_;exact au.aH rfl h
theorem nV(out limit:Int):bu (US out limit) bg (λr=>bs (r=decide (out<limit)) bg):=
 bC λw0 S R h=>by exact au.aH rfl h
end fV

namespace eI
open bH bp gV fb gM fK eY fV
abbrev Sg:=Int×Int×Int×Int×Bool
abbrev RA:Sg:=(0,0,0,0,false)
structure Sk where
 id:Int
 bt:Int
 cap:Int
 bf:Bf
 bd:List Pc×Int
 sp:Sp
 md:Md
 out:Int
 nx:Int
def bB(v:Sk):Int:=wA v.md.ba v.bt
def cZ(v:Sk):Int:=dz v.bd.1
def dV(v:Sk):Int×Sk:=
 if(bE v.bd.1).2=false∧bW v.bf-bN v.bf=0 then(7,if cZ v<v.md.cN then{v with sp:=ow v.sp (cZ v)}else v)
 else if ¬(cZ v<v.md.cN∧v.out<ik v.md.ba (bB v) v.cap)then(5,v)
 else if(bE v.bd.1).2=false∧(v.bd.1.length:Int)≥4096 then(5,v)else(0,v)
def lq(v:Sk)(rg:Int×Int)(again:Bool)(aj:Int):Sg×Sk:=
 ((v.id,rg.1,rg.2-rg.1,(if v.nx>aj then v.nx else aj),again),{v with nx:=bJ (if v.nx>aj then v.nx else aj) (dY (rg.2-rg.1) v.md.ba),out:=v.out+(rg.2-rg.1)})
abbrev eK(v:Sk)(aj:Int):Sk:={v with sp:=(jI v.sp aj (cZ v)).2}
def vb(v:Sk)(aj:Int):Sg×Sk:=
 if(bE v.bd.1).2 then lq {eK v aj with bd:=(dN v.bd.1 (jI v.sp aj (cZ v)).1,v.bd.2)} (bE v.bd.1).1 true aj
 else lq {eK v aj with bf:=(lx v.bf (bB v)).2,bd:=(ej v.bd (lx v.bf (bB v)).1.1.1 (lx v.bf (bB v)).1.1.2 (jI v.sp aj (cZ v)).1).2} (lx v.bf (bB v)).1.1 false aj
def cq(v:Sk)(aj:Int):(Sg×Int)×Sk:=if(dV v).1≠0 then((RA,(dV v).1),(dV v).2)else(((vb v aj).1,0),(vb v aj).2)
def cv(v:Sk)(n:Int):Int×Sk:=if n<1∨n>v.out then(1,v)else(0,{v with out:=v.out-n})
def eM(v:Sk)(n:Int):Int×Sk:=((Bg v.bf n).1,{v with bf:=(Bg v.bf n).2})
def jX(v:Sk)(aj bo:Int):Sk:={v with sp:=(gh v.sp aj bo (cZ v)).2,md:=pM v.md (gh v.sp aj bo (cZ v)).1 (bB v)}
def io(v:Sk)(aj:Int):Sk:=jX {v with bd:=(v.bd.1.map fo,v.bd.2)} aj (dz v.bd.1)
def iO(id bt cap:Int):Sk:=⟨id,bn bt,cap,(0,0,0,1073741824),([],0),Ym,mM (bn bt),0,0⟩
end eI

namespace fe
open bH bp gV fb gM fK eY fV eI
abbrev N7:=Nat×Nat×Nat×Nat×Nat×Nat×Nat
def w_(x:N7)(m:Md):SP:=match x with
 |(b,n1,n2,n3,n4,n5,n6)=>af b (ad.ig n1 n2 n3 n4 n5 n6 m)^af n1 (ad.gD m.w)^af n2 (ad.jK m.r)^af n3 (ad.jA m.p)^af n4 (ad.iV m.c)^af n5 (ad.jk m.b)^af n6 (ad.gz m.q)
instance(x:N7)(m:Md):nl (w_ x m):=by unfold w_;infer_instance
theorem yA(x m):bu (wP (some ⟨x.1,0⟩)) (w_ x m) (λr=>bs (r=GW m) (w_ x m)):=by
 obtain⟨b,n1,n2,n3,n4,n5,n6⟩:=x;exact Jr.Co b n1 n2 n3 n4 n5 n6 m
theorem Nv(x m)(hm:gr m)(s)(hs:oi s)(tso:Int)(ht:U tso):bu (Qr (some ⟨x.1,0⟩) s tso) (w_ x m) (λr=>bs (r=GW (pM m s tso)) (w_ x (pM m s tso))):=by
 obtain⟨b,n1,n2,n3,n4,n5,n6⟩:=x;exact Tv.Sq b n1 n2 n3 n4 n5 n6 m hm s hs tso ht
theorem Ns(n:Int):bu (P5 n) bg (λr=>ex λx:N7=>bs (r=some ⟨x.1,0⟩) (w_ x (mM n))):=
 (Jr.jD n).le Le.rfl λ_ _ _ _ ⟨⟨b,n1,n2,n3,n4,n5,n6⟩,h1,h2⟩=>⟨(b,n1,n2,n3,n4,n5,n6),h1,h2⟩
abbrev sL(v:Sk)(pb pd ps pm:Nat):List Lf:=[aE v.id,aE v.bt,aE v.cap,.ptr (some ⟨pb,0⟩),.ptr (some ⟨pd,0⟩),.ptr (some ⟨ps,0⟩),.ptr (some ⟨pm,0⟩),aB v.out,aB v.nx]
def mR(p:Nat)(v:Sk):SP:=ex λx:Nat×Nat×Nat×N7=>af p (sL v x.1 x.2.1 x.2.2.1 x.2.2.2.1)^af x.1 (Ks.mk rh v.bf)^kT x.2.1 v.bd^af x.2.2.1 (Ks.mk nQ v.sp)^w_ x.2.2.2 v.md
instance(p:Nat)(v:Sk):nl (mR p v):=by unfold mR;infer_instance
section
variable {w0 w:World} {S0 R0:Nat→Prop} {F G:SP}
theorem _root_.Go.X.au.mR(h:au w0 S0 R0 w F)(p)[tk:ol fe.mR p F v G]:∃(pb pd ps:Nat) (x:N7),au w0 S0 R0 w (af p (sL v pb pd ps x.1)^af pb (Ks.mk rh v.bf)^kT pd v.bd^af ps (Ks.mk nQ v.sp)^w_ x v.md^G):=by
 obtain⟨x,h⟩:=(h.le tk.le).lV;exact⟨x.1,x.2.1,x.2.2.1,x.2.2.2,h.aI⟩
theorem _root_.Go.X.au.nF(h:au w0 S0 R0 w F)(p pb pd ps x v)[tk:Take (af p (sL v pb pd ps x.1)^af pb (Ks.mk rh v.bf)^kT pd v.bd^af ps (Ks.mk nQ v.sp)^w_ x v.md) F G]:au w0 S0 R0 w (fe.mR p v^G):=
 au.tQ (f:=λx:Nat×Nat×Nat×N7=>af p (sL v x.1 x.2.1 x.2.2.1 x.2.2.2.1)^af x.1 (Ks.mk rh v.bf)^kT x.2.1 v.bd^af x.2.2.1 (Ks.mk nQ v.sp)^w_ x.2.2.2 v.md) (pb,pd,ps,x) (h.le tk.le)
end
theorem mZ(p pb pd ps:Nat)(x:N7)(v:Sk)(hl:v.bd.1.length≤4294967296):bu (Gq (some ⟨p,0⟩)) (af p (sL v pb pd ps x.1)^kT pd v.bd) (λr=>bs (r=cZ v) (af p (sL v pb pd ps x.1)^kT pd v.bd)):=
 bC λw0 S R h=>by
  refine ae (λc=>(by simp at c)) λ_=>?_;refine ac (ah h rfl (aK (fb.GJ pd v.bd hl) h λw h=>?_));exact au.aH rfl h.aI
theorem A1(p pb pd ps x v)(hm:gr v.md):bu (Bn (some ⟨p,0⟩)) (af p (sL v pb pd ps x.1)^w_ x v.md) (λr=>bs (r=bB v) (af p (sL v pb pd ps x.1)^w_ x v.md)):=
 bC λw0 S R h=>by
  refine ae (λc=>(by simp at c)) λ_=>?_;refine aM h λw h=>ac (ac (ah h rfl (ah h rfl (aK (yA x v.md) h λw h=>?_))));refine aN h rfl (aK (Sj (GW v.md).2.2.1 v.bt hm.ba) h λw h=>?_);exact au.aH rfl h.aI
theorem Kz(p v):bu (Z_ (some ⟨p,0⟩)) (mR p v) (λr=>bs (r=GW v.md) (mR p v)):=
 bC λw0 S R h=>by
  refine aD h λn w h=>ae (λc=>(by simp at c)) λ_=>?_;obtain⟨pb,pd,ps,x,h⟩:=h.mR p;refine ac (ah h rfl (aK (yA x v.md) h λw h=>?_));refine az h (by rfl) λw h=>aw (b:=n) (x:=GW v.md) h rfl ?_;exact au.aH rfl (h.nF p pb pd ps x v).aI
theorem Lr(p v)(hb:rR v.bf)(n:Int)(hn:n<9223372036854775808):bu (TS (some ⟨p,0⟩) n) (mR p v) (λr=>bs (r=(eM v n).1) (mR p (eM v n).2)):=
 bC λw0 S R h=>by
  refine ae (λc=>(by simp at c)) λ_=>?_;obtain⟨pb,pd,ps,x,h⟩:=h.mR p;refine ac (ah h rfl (aK (Gl pb v.bf hb n hn) h λw h=>?_));exact au.aH rfl (h.nF p pb pd ps x {v with bf:=(Bg v.bf n).2}).br
theorem EJ(p v)(ho:U v.out)(n:Int)(hn:n<9223372036854775808):bu (P8 (some ⟨p,0⟩) n) (mR p v) (λr=>bs (r=(cv v n).1) (mR p (cv v n).2)):=
 bC λw0 S R h=>by
  unfold U at ho;obtain⟨pb,pd,ps,x,h⟩:=(h.le (aJ _)).mR p;refine aQ h (λ_=>af p (sL v pb pd ps x.1)^af pb (Ks.mk rh v.bf)^kT pd v.bd^af ps (Ks.mk nQ v.sp)^w_ x v.md) (λ_=>¬(n<1∨n>v.out)) (λ_ w hx h=>?_) ?_
  ·have e:cv v n=(0,{v with out:=v.out-n}):=(by unfold cv;rw[ay hx]);have ew:u64.wrap (v.out-u64.wrap n)=v.out-n:=(by rw[ja (n:=n)];exact ja);rw[e];refine ac (ah h rfl (ac ?_));rw[ew];refine aA h p (sL {v with out:=v.out-n} pb pd ps x.1) rfl rfl rfl λw h=>?_;exact au.aH rfl (h.nF p pb pd ps x {v with out:=v.out-n}).br
  ·have bad:∀{w:World},(n<1∨n>v.out)→au w0 S R w (af p (sL v pb pd ps x.1)^af pb (Ks.mk rh v.bf)^kT pd v.bd^af ps (Ks.mk nQ v.sp)^w_ x v.md^bg)→au w0 S R w (bs ((1:Int)=(cv v n).1) (mR p (cv v n).2)):=λ{w} c h=>by
    have e:cv v n=(1,v):=(by unfold cv;rw[aG c]);rw[e];exact au.aH rfl (h.nF p pb pd ps x v).br
   refine ae (λc=>(by simp at c)) λ_=>ae (λc=>?_) λc=>?_
   ·exact bad (.inl (bV c)) h.aI
   ·have c:¬n<1:=bY c;refine ac (ah h rfl (ae (λc2=>?_) λc2=>?_))
    ·have c2:u64.wrap n>v.out:=bV c2;rw[ja (n:=n)]at c2;exact bad (.inr c2) h.aI
    ·have c2:¬u64.wrap n>v.out:=bY c2;rw[ja (n:=n)]at c2;exact⟨by omega,h.aI⟩
end fe

namespace lz
open bH bp gV fb gM fK eY fV eI fe
theorem LU(b)(v:List Pc×Int):bu (UU (some ⟨b,0⟩)) (kT b v) (λr=>bs (r=(v.1.length:Int)) (kT b v)):=
 bC λw0 S R h=>by
  refine ae (λc=>(by simp at c)) λ_=>?_;obtain⟨s,h⟩:=(h.le (aJ _)).kT b;have hs:=(h.rd (s:=s)).2;refine ac (ah h rfl ?_);refine au.aH ?_ (h.pf b s v.1 v.2).br;show((s.len:Nat):Int)=_;rw[hs]
structure pV(v:Sk):Prop where
 bf:rR v.bf
 bl:v.bd.1.length≤4096
 sp:pW v.sp
 md:gr v.md
 bt:100≤v.bt∧v.bt≤9000
 cap:-9223372036854775808≤v.cap∧v.cap<9223372036854775808
 out:U v.out
 nx:U v.nx
 fl:U (cZ v)
theorem nV(p v)(hv:pV v):bu (Uk (some ⟨p,0⟩)) (mR p v) (λr=>bs (r=(dV v).1) (mR p (dV v).2)):=
 bC λw0 S R h=>by
  have hbl:v.bd.1.length≤4294967296:=by have:=hv.bl;omega
  have hts:=sQ v.md.ba v.bt hv.md.ba.1;obtain⟨pb,pd,ps,x,h⟩:=(h.le (aJ _)).mR p;refine ac (ah h rfl (aK (Em pd v.bd hbl) h λw h=>?_));refine aD h λn4 w h=>az h (by rfl) λw h=>ac (ah h rfl (aK (yA x v.md) h λw h=>?_));refine aD h λn8 w h=>az h (by rfl) λw h=>aM h λw h=>ah (x:=v.md.cN) h rfl (aK (mZ p pb pd ps x v hbl) h λw h=>?_);refine aN h rfl ?_;have h:au w0 S R w (af n8 (Ks.mk eH (GW v.md))^af p (sL v pb pd ps x.1)^af pb (Ks.mk rh v.bf)^kT pd v.bd^af ps (Ks.mk nQ v.sp)^w_ x v.md):=h.aI;refine aQ h (λ_=>af n8 (Ks.mk eH (GW v.md))^af p (sL v pb pd ps x.1)^af pb (Ks.mk rh v.bf)^kT pd v.bd^af ps (Ks.mk nQ v.sp)^w_ x v.md) (λy:Bool=>y=true↔(bE v.bd.1).2=false∧bW v.bf-bN v.bf=0) (λ(y:Bool) w hy h=>?_) ?_;rotate_left
  ·refine ae (λc=>?_) λc=>?_
   ·have c:(bE v.bd.1).2=false:=cC;refine ac (ah h rfl (aK (xK pb v.bf hv.bf) h λw h=>?_));refine⟨?_,h.aI⟩;show(bW v.bf-bN v.bf==0)=true↔_;rw[qQ];exact⟨λe=>⟨c,e⟩,λe=>e.2⟩
   ·have c:(bE v.bd.1).2=true:=cC;exact⟨⟨λe=>(by cases e),λe=>(by rw[c]at e;cases e.1)⟩,h⟩
  ·refine ae (λc=>?_) λc=>?_
   ·have c:=hy.1 c;have e:dV v=(7,if cZ v<v.md.cN then{v with sp:=ow v.sp (cZ v)}else v):=(by unfold dV;rw[aG c]);rw[e];refine ae (λc2=>?_) λc2=>?_
    ·have c2:cZ v<v.md.cN:=bV c2;rw[aG c2];refine aM h λw h=>ac (ah h rfl (aK (mZ p pb pd ps x v hbl) h λw h=>?_));refine aN h rfl (ar (Kr ps v.sp hv.sp (cZ v) hv.fl) h λ_ w h=>?_);exact au.aH rfl (h.nF p pb pd ps x {v with sp:=ow v.sp (cZ v)}).br
    ·have c2:¬cZ v<v.md.cN:=bY c2;rw[ay c2];exact au.aH rfl (h.nF p pb pd ps x v).br
   ·have c1:¬((bE v.bd.1).2=false∧bW v.bf-bN v.bf=0):=λe=>by have:=hy.2 e;rw[c]at this;cases this
    refine aQ h (λ_=>af n8 (Ks.mk eH (GW v.md))^af p (sL v pb pd ps x.1)^af pb (Ks.mk rh v.bf)^kT pd v.bd^af ps (Ks.mk nQ v.sp)^w_ x v.md) (λy:Bool=>y=true↔¬(cZ v<v.md.cN∧v.out<ik v.md.ba (bB v) v.cap)) (λ(y:Bool) w hy h=>?_) ?_
    ·refine ae (λc=>?_) λc=>?_
     ·have e:dV v=(5,v):=(by unfold dV;rw[ay c1,aG (hy.1 c)]);rw[e];exact au.aH rfl (h.nF p pb pd ps x v).br
     ·have c2:¬¬(cZ v<v.md.cN∧v.out<ik v.md.ba (bB v) v.cap):=λe=>by have:=hy.2 e;rw[c]at this;cases this
      refine ae (λc3=>?_) λc3=>?_
      ·have c3:(bE v.bd.1).2=false:=(by simpa using c3);refine ac (ah h rfl (aK (LU pd v.bd) h λw h=>?_));refine ae (λc4=>?_) λc4=>?_
       ·have c4:(v.bd.1.length:Int)≥4096:=bV c4;have e:dV v=(5,v):=(by unfold dV;rw[ay c1,ay c2,aG ⟨c3,c4⟩]);rw[e];exact au.aH rfl (h.nF p pb pd ps x v).br
       ·have c4:¬(v.bd.1.length:Int)≥4096:=bY c4;have e:dV v=(0,v):=(by unfold dV;rw[ay c1,ay c2,ay (λe=>c4 e.2)]);rw[e];exact au.aH rfl (h.nF p pb pd ps x v).br
      ·have c3:(bE v.bd.1).2=true:=(by simpa using c3);have e:dV v=(0,v):=(by unfold dV;rw[ay c1,ay c2,ay (λe=>by rw[c3]at e;cases e.1)]);rw[e];exact au.aH rfl (h.nF p pb pd ps x v).br
    ·refine aM h λw h=>ae (λc=>?_) λc=>?_
     ·have c:¬cZ v<v.md.cN:=cC;exact⟨⟨λ_ e=>c e.1,λ_=>rfl⟩,h⟩
     ·have c:cZ v<v.md.cN:=cC;refine ac (ah (x:=v.md.ba) h rfl (ac (ah h rfl (ah h rfl (aK (A1 p pb pd ps x v hv.md) h λw h=>?_)))));refine aN h rfl (aN h rfl (aN h rfl (aK (JP v.md.ba (bB v) v.cap hv.md.ba ⟨by unfold bB;omega,hts.2⟩ hv.cap) h λw h=>?_)));refine aN h rfl (aK (fV.nV v.out (ik v.md.ba (bB v) v.cap)) h λw h=>?_);refine⟨?_,h.aI⟩;show(!decide (v.out<ik v.md.ba (bB v) v.cap))=true↔_;simp[c]
end lz

namespace ny
open bH bp gV fb gM fK eY fV eI fe lz
abbrev KS:Ks:=[.int .i64,.int .u64,.int .i64,.int .u64,.bool]
abbrev zS:List Lf:=[aE 0,aB 0,aE 0,aB 0,bc false]
def VR(p n1 n14:Nat)(o:Int)(ag:Bool)(R:Rs.T [.agg KS,.lf (.int .i64)]→WP):WP:=
 bR<|
 aC (some ⟨p,0⟩) λq27=>
 ld [.int .u64] ⟨n14,0⟩ λ(x28:Int)=>
 ld [.int .u64] ⟨n14,1⟩ λ(x29:Int)=>
 ld [.int .u64] ⟨n14,0⟩ λ(x30:Int)=>
 aC (some ⟨p,0⟩) λq31=>
 ld [.int .i64] q27 λ(x32:Int)=>
 ld [.int .u64] ⟨q31.b,q31.o+8⟩ λ(x33:Int)=>
 new [aE (0:Int),aB (0:Int),aE (0:Int),aB (0:Int),bc false] λn34=>
 ct ⟨q31.b,q31.o+8⟩ (Ks.mk [.int .u64] x33)<|
 ct q27 (Ks.mk [.int .i64] x32)<|
 ct ⟨n14,0⟩ (Ks.mk [.int .u64] x30)<|
 ct ⟨n14,1⟩ (Ks.mk [.int .u64] x29)<|
 ct ⟨n14,0⟩ (Ks.mk [.int .u64] x28)<|
 st ⟨n34,0⟩ [aE x32,aB x28,aE (i64.wrap (u64.wrap (x29-x30))),aB (if x33>o then x33 else o),bc ag]<|
 bR<|
 ld [.int .u64] ⟨n34,3⟩ λ(x35:Int)=>
 ld [.int .i64] ⟨n34,2⟩ λ(x36:Int)=>
 aC (some ⟨p,0⟩) λq37=>
 ld [.ptr] ⟨q37.b,q37.o+6⟩ λ(x38:bO)=>
 call Tryz.prog vn [.lf (.ptr x38)] [.agg eH] λ(r39:gd)=>
 ct ⟨n34,2⟩ (Ks.mk [.int .i64] x36)<|
 ct ⟨n34,3⟩ (Ks.mk [.int .u64] x35)<|
 call Tryz.prog Gb [.lf (.int .i64 x36),.lf (.int .u64 r39.2.2.1)] [.lf (.int .u64)] λ(r40:Int)=>
 ct ⟨n34,3⟩ (Ks.mk [.int .u64] x35)<|
 call Tryz.prog JB [.lf (.int .u64 x35),.lf (.int .u64 r40)] [.lf (.int .u64)] λ(r41:Int)=>
 aC (some ⟨p,0⟩) λq42=>
 st ⟨q42.b,q42.o+8⟩ [aB r41]<|
 bR<|
 aC (some ⟨p,0⟩) λq43=>
 ld [.int .i64] ⟨n34,2⟩ λ(x44:Int)=>
 ld [.int .u64] ⟨q43.b,q43.o+7⟩ λ(x45:Int)=>
 aC (some ⟨p,0⟩) λq46=>
 st ⟨q46.b,q46.o+7⟩ [aB (u64.wrap (x45+(u64.wrap x44)))]<|
 ld KS ⟨n34,0⟩ λ(x47:Ks.T KS)=>
 st ⟨n1,0⟩ (Ks.mk KS x47)<|
 ld KS ⟨n1,0⟩ λ(x48:Ks.T KS)=>
 R (x48,(0:Int))
theorem To{w0 w:World}{S0 R0:Nat→Prop}{G:SP}{R:Rs.T [.agg KS,.lf (.int .i64)]→WP}{p n1 n14 pb pd ps:Nat}{x:N7}{v:Sk}{aj a b:Int}{ag:Bool}(hm:gr v.md)(hn:U aj)(hnx:U v.nx)(hab:0≤b-a∧b-a≤65536)(ho:0≤v.out∧v.out+65536<18446744073709551616)
  (h:au w0 S0 R0 w (af n1 zS^af n14 [aB a,aB b]^(af p (sL v pb pd ps x.1)^af pb (Ks.mk rh v.bf)^kT pd v.bd^af ps (Ks.mk nQ v.sp)^w_ x v.md)^G))
  (k:∀w',au w0 S0 R0 w' (mR p (lq v (a,b) ag aj).2^G)→R ((lq v (a,b) ag aj).1,0) w'):VR p n1 n14 aj ag R w:=by
 unfold VR;have e1:u64.wrap (b-a)=b-a:=ja;have e2:i64.wrap (b-a)=b-a:=gi;have hst:U (if v.nx>aj then v.nx else aj):=by split;exact hnx;exact hn
 have hD:U (dY (b-a) v.md.ba):=oU (by omega) hm.ba;refine aM h λw h=>ac (ah h rfl (ah h rfl (ah h rfl (ac (ah h rfl (ah h rfl (aD h λn34 w h=>?_)))))));refine aN h rfl (aN h rfl (aN h rfl (aN h rfl (aN h rfl ?_))));rw[e1,e2];refine az h (by rfl) λw h=>aM h λw h=>ah h rfl (ah h rfl (ac (ah h rfl (aK (yA x v.md) h λw h=>?_))));refine aN h rfl (aN h rfl (aK (wW (b-a) v.md.ba (by omega) hm.ba) h λw h=>?_));refine aN h rfl (aK (e_ _ _ hst hD) h λw h=>?_);refine ac (aA h p (sL {v with nx:=bJ (if v.nx>aj then v.nx else aj) (dY (b-a) v.md.ba)} pb pd ps x.1) rfl rfl rfl λw h=>?_);have e3:u64.wrap (v.out+u64.wrap (b-a))=v.out+(b-a):=by rw[e1];exact ja
 refine aM h λw h=>ac (ah h rfl (ah (x:=v.out) h rfl (ac ?_)));rw[e3];refine aA h p (sL {v with nx:=bJ (if v.nx>aj then v.nx else aj) (dY (b-a) v.md.ba),out:=v.out+(b-a)} pb pd ps x.1) rfl rfl rfl λw h=>?_;refine aw (b:=n34) (x:=(lq v (a,b) ag aj).1) h rfl (az h (by rfl) λw h=>aw (b:=n1) (x:=(lq v (a,b) ag aj).1) h rfl ?_);have h2:au w0 S0 R0 w (mR p {v with nx:=bJ (if v.nx>aj then v.nx else aj) (dY (b-a) v.md.ba),out:=v.out+(b-a)}^G):=(h.nF p pb pd ps x {v with nx:=bJ (if v.nx>aj then v.nx else aj) (dY (b-a) v.md.ba),out:=v.out+(b-a)}).aI;exact k w h2
end ny

namespace oO
open bH bp gV fb gM fK eY fV eI fe lz ny
abbrev KR:Ks:=[.int .u64,.int .u64]
theorem nr(h:A w)(k:B w):both A B w:=⟨h,k⟩
def O1(p n1 n9 n14:Nat)(o:Int)(ag:Bool)(R:Rs.T [.agg KS,.lf (.int .i64)]→WP):WP:=
 join [] (λJ15=>
 aq (!ag) (
 bR<|
 aC (some ⟨p,0⟩) λq17=>
 ld [.ptr] ⟨q17.b,q17.o+3⟩ λ(x18:bO)=>
 call Tryz.prog yc [.lf (.ptr (some ⟨p,0⟩))] [.lf (.int .i64)] λ(r19:Int)=>
 ct ⟨q17.b,q17.o+3⟩ (Ks.mk [.ptr] x18)<|
 call Tryz.prog rN [.lf (.ptr x18),.lf (.int .i64 r19)] [.agg [.int .u64,.int .u64],.lf .bool] λ(r20:(Int×Int)×Bool)=>
 st ⟨n14,0⟩ (Ks.mk [.int .u64,.int .u64] r20.1)<|
 bR<|
 ld cw ⟨n9,0⟩ λ(x21:pY)=>
 aC (some ⟨p,0⟩) λq22=>
 ld [.int .u64] ⟨n14,0⟩ λ(x23:Int)=>
 ld [.int .u64] ⟨n14,1⟩ λ(x24:Int)=>
 ld [.ptr] ⟨q22.b,q22.o+4⟩ λ(x25:bO)=>
 call Tryz.prog uj [.lf (.ptr x25),.lf (.int .u64 x23),.lf (.int .u64 x24),.agg (Ks.mk cw x21)] [.lf (.int .i64)] λ(r26:Int)=>
 J15 ())<|
 J15 ()) λ(y16:Unit)=>VR p n1 n14 o ag R
def TC(p n1 n9:Nat)(o:Int)(R:Rs.T [.agg KS,.lf (.int .i64)]→WP):WP:=
 bR<|
 ld cw ⟨n9,0⟩ λ(x10:pY)=>
 aC (some ⟨p,0⟩) λq11=>
 ld [.ptr] ⟨q11.b,q11.o+4⟩ λ(x12:bO)=>
 both (
 call Tryz.prog nt [.lf (.ptr x12),.agg (Ks.mk cw x10)] [.agg [.int .u64,.int .u64],.lf .bool] λ(r13:(Int×Int)×Bool)=>
 new [aB (0:Int),aB (0:Int)] λn14=>
 ct ⟨q11.b,q11.o+4⟩ (Ks.mk [.ptr] x12)<|
 ct ⟨n9,0⟩ (Ks.mk cw x10)<|
 st ⟨n14,0⟩ (Ks.mk [.int .u64,.int .u64] r13.1)<|
 O1 p n1 n9 n14 o r13.2 R)<|
 new [aB (0:Int),aB (0:Int)] λn49=>
 ct ⟨q11.b,q11.o+4⟩ (Ks.mk [.ptr] x12)<|
 ct ⟨n9,0⟩ (Ks.mk cw x10)<|
 call Tryz.prog nt [.lf (.ptr x12),.agg (Ks.mk cw x10)] [.agg [.int .u64,.int .u64],.lf .bool] λ(r50:(Int×Int)×Bool)=>
 st ⟨n49,0⟩ (Ks.mk [.int .u64,.int .u64] r50.1)<|
 O1 p n1 n9 n49 o r50.2 R
theorem F0(hb:rR b){m:Int}(hm:m≤65536):0≤(lx b m).1.1.2-(lx b m).1.1.1∧(lx b m).1.1.2-(lx b m).1.1.1≤65536:=by
 have:=hb.nw;unfold lx;split
 ·show 0≤bN b+min (bW b-bN b) m-bN b∧bN b+min (bW b-bN b) m-bN b≤65536;omega
 ·show(0:Int)≤0-0∧(0:Int)-0≤65536;omega
theorem Tp{w0 w:World}{S0 R0:Nat→Prop}{G:SP}{R:Rs.T [.agg KS,.lf (.int .i64)]→WP}{p n1 n9 n14 pb pd ps:Nat}{x:N7}{v:Sk}{aj a b:Int}{sn:PE}{ag:Bool}(hbf:rR v.bf)(hm:gr v.md)(hn:U aj)(hnx:U v.nx)(hab:ag=true→0≤b-a∧b-a≤65536)(ho:0≤v.out∧v.out+65536<18446744073709551616)
  (h:au w0 S0 R0 w (af n1 zS^af n9 (Ks.mk cw sn)^af n14 [aB a,aB b]^(af p (sL v pb pd ps x.1)^af pb (Ks.mk rh v.bf)^kT pd v.bd^af ps (Ks.mk nQ v.sp)^w_ x v.md)^G))
  (k1:ag=true→∀w',au w0 S0 R0 w' (mR p (lq v (a,b) true aj).2^G)→R ((lq v (a,b) true aj).1,0) w')
  (k2:ag=false→∀w',au w0 S0 R0 w' (mR p (lq {v with bf:=(lx v.bf (bB v)).2,bd:=(ej v.bd (lx v.bf (bB v)).1.1.1 (lx v.bf (bB v)).1.1.2 sn).2} (lx v.bf (bB v)).1.1 false aj).2^G)→R ((lq {v with bf:=(lx v.bf (bB v)).2,bd:=(ej v.bd (lx v.bf (bB v)).1.1.1 (lx v.bf (bB v)).1.1.2 sn).2} (lx v.bf (bB v)).1.1 false aj).1,0) w'):O1 p n1 n9 n14 aj ag R w:=by
 have hts:=sQ v.md.ba v.bt hm.ba.1;unfold O1;cases ag with
 |true=>
  refine aQ h (λ_=>af n1 zS^af n9 (Ks.mk cw sn)^af n14 [aB a,aB b]^(af p (sL v pb pd ps x.1)^af pb (Ks.mk rh v.bf)^kT pd v.bd^af ps (Ks.mk nQ v.sp)^w_ x v.md)^G) (λ_=>True) (λ_ w _ h=>?_) ?_
  ·exact To (G:=G) (pb:=pb) (pd:=pd) (ps:=ps) (x:=x) hm hn hnx (hab rfl) ho h.aI (k1 rfl)
  ·exact ae (λc=>by cases c) λ_=>⟨trivial,h⟩
 |false=>
  refine aQ h (λ_=>af n1 zS^af n14 (Ks.mk KR (lx v.bf (bB v)).1.1)^(af p (sL v pb pd ps x.1)^af pb (Ks.mk rh (lx v.bf (bB v)).2)^kT pd (ej v.bd (lx v.bf (bB v)).1.1.1 (lx v.bf (bB v)).1.1.2 sn).2^af ps (Ks.mk nQ v.sp)^w_ x v.md)^G) (λ_=>True) (λ_ w _ h=>?_) ?_
  ·exact To (G:=G) (v:={v with bf:=(lx v.bf (bB v)).2,bd:=(ej v.bd (lx v.bf (bB v)).1.1.1 (lx v.bf (bB v)).1.1.2 sn).2}) hm hn hnx (F0 hbf hts.2) ho h (k2 rfl)
  ·refine ae (λ_=>?_) λc=>by cases c
   refine aM h λw h=>ac (ah h rfl (aK (A1 p pb pd ps x v hm) h λw h=>?_));refine aN h rfl (aK (JR pb v.bf hbf (bB v) (by unfold bB;omega)) h λw h=>?_);refine az h (by rfl) λw h=>aM h λw h=>aw (b:=n9) (x:=sn) h rfl (ac (ah h rfl (ah h rfl (ah h rfl (ar (fb.sJ pd _ _ sn v.bd) h λr w h=>?_)))));obtain⟨hr,h⟩:=h.aP;exact⟨trivial,h.aI⟩
def PS(v:Sk)(sn:PE)(aj:Int):Sg×Sk:=
 if(bE v.bd.1).2 then lq {v with bd:=(dN v.bd.1 sn,v.bd.2)} (bE v.bd.1).1 true aj
 else lq {v with bf:=(lx v.bf (bB v)).2,bd:=(ej v.bd (lx v.bf (bB v)).1.1.1 (lx v.bf (bB v)).1.1.2 sn).2} (lx v.bf (bB v)).1.1 false aj
theorem Q_(v)(aj:Int):vb v aj=PS (eK v aj) (jI v.sp aj (cZ v)).1 aj:=rfl
theorem LN(s)(h:(bE l).2=false):dN l s=l:=by
 unfold bE at h;unfold dN;split at h
 ·split at h
  ·rename_i hc;exact aG hc
  ·cases h
 ·rfl
theorem Yw{w0 w:World}{S0 R0:Nat→Prop}{G:SP}{R:Rs.T [.agg KS,.lf (.int .i64)]→WP}{p n1 n9 pb pd ps:Nat}{x:N7}{v:Sk}{aj:Int}{sn:PE}(hbf:rR v.bf)(hbl:v.bd.1.length≤4294967296)(hm:gr v.md)(hn:U aj)(hnx:U v.nx)(hab:(bE v.bd.1).2=true→0≤(bE v.bd.1).1.2-(bE v.bd.1).1.1∧(bE v.bd.1).1.2-(bE v.bd.1).1.1≤65536)(ho:0≤v.out∧v.out+65536<18446744073709551616)
  (h:au w0 S0 R0 w (af n1 zS^af n9 (Ks.mk cw sn)^(af p (sL v pb pd ps x.1)^af pb (Ks.mk rh v.bf)^kT pd v.bd^af ps (Ks.mk nQ v.sp)^w_ x v.md)^G))
  (k:∀w',au w0 S0 R0 w' (mR p (PS v sn aj).2^G)→R ((PS v sn aj).1,0) w'):TC p n1 n9 aj R w:=by
 have t1:∀{w:World} {n14:Nat},au w0 S0 R0 w (af n1 zS^af n9 (Ks.mk cw sn)^af n14 (Ks.mk KR (bE v.bd.1).1)^(af p (sL v pb pd ps x.1)^af pb (Ks.mk rh v.bf)^kT pd (dN v.bd.1 sn,v.bd.2)^af ps (Ks.mk nQ v.sp)^w_ x v.md)^G)→O1 p n1 n9 n14 aj (bE v.bd.1).2 R w:=by
  intro w n14 h;cases hl:(bE v.bd.1).2 with
  |true=>
   have e:PS v sn aj=lq {v with bd:=(dN v.bd.1 sn,v.bd.2)} (bE v.bd.1).1 true aj:=(by unfold PS;rw[aG hl]);rw[e]at k;exact Tp (G:=G) (v:={v with bd:=(dN v.bd.1 sn,v.bd.2)}) (pb:=pb) (pd:=pd) (ps:=ps) (x:=x) (sn:=sn) hbf hm hn hnx (λ_=>hab hl) ho h (λ_=>k) (λc=>by cases c)
  |false=>
   have e:PS v sn aj=lq {v with bf:=(lx v.bf (bB v)).2,bd:=(ej v.bd (lx v.bf (bB v)).1.1.1 (lx v.bf (bB v)).1.1.2 sn).2} (lx v.bf (bB v)).1.1 false aj:=(by unfold PS;rw[ay (by rw[hl];intro c;cases c)]);rw[e]at k;rw[LN sn hl]at h;exact Tp (G:=G) (v:=v) (pb:=pb) (pd:=pd) (ps:=ps) (x:=x) (sn:=sn) hbf hm hn hnx (λc=>by cases c) ho h (λc=>by cases c) (λ_=>k)
 unfold TC;refine aM h λw h=>aw (b:=n9) (x:=sn) h rfl (ac (ah h rfl (nr ?_ ?_)))
 ·refine aK (BC pd sn v.bd hbl) h λw h=>?_;refine aD h λn14 w h=>aN h rfl (aO (b:=n9) h (az h (by rfl) λw h=>?_));exact t1 h.aI
 ·refine aD h λn14 w h=>aN h rfl (aO (b:=n9) h (aK (BC pd sn v.bd hbl) h λw h=>?_));refine az h (by rfl) λw h=>?_;exact t1 h.aI
end oO

namespace oP
open bH bp gV fb gM fK eY fV eI fe lz ny oO
def ry(l:List Pc):Prop:=(bE l).2=true→0≤(bE l).1.2-(bE l).1.1∧(bE l).1.2-(bE l).1.1≤65536
theorem LR(ba tso most:Int)(hr:U ba)(ht:tso≤65536):ik ba tso most≤18014398509481984:=by
 unfold U at hr;unfold ik jz;split<;>split<;>omega
theorem C9(hr:U v.md.ba)(h:(dV v).1=0):v.out<18014398509481984∧(dV v).2=v:=by
 have hb:=LR v.md.ba (bB v) v.cap hr (sQ v.md.ba v.bt hr.1).2;unfold dV at h⊢;by_cases c1:(bE v.bd.1).2=false∧bW v.bf-bN v.bf=0
 ·rw[aG c1]at h;cases h
 ·rw[ay c1]at h⊢;by_cases c2:¬(cZ v<v.md.cN∧v.out<ik v.md.ba (bB v) v.cap)
  ·rw[aG c2]at h;cases h
  ·rw[ay c2]at h⊢;have c2:=Dw.1 c2;refine⟨by omega,?_⟩;split<;>rfl
theorem MF(p v)(hv:pV v)(hL:ry v.bd.1)(aj:Int)(hn:U aj):bu (TW (some ⟨p,0⟩) aj) (mR p v) (λr=>bs (r=(cq v aj).1) (mR p (cq v aj).2)):=
 bC λw0 S R h=>by
  have hbl:v.bd.1.length≤4294967296:=by have:=hv.bl;omega
  refine aD h λn1 w h=>ae (λc=>(by simp at c)) λ_=>aK (lz.nV p v hv) h λw h=>?_;refine ae (λc=>?_) λc=>?_
  ·have c:(dV v).1≠0:=cC;have e:cq v aj=((RA,(dV v).1),(dV v).2):=(by unfold cq;rw[aG c]);rw[e];refine az h (by rfl) λw h=>aw (b:=n1) (x:=RA) h rfl ?_;have h:au w0 S R w (mR p (dV v).2^af n1 zS):=h.aI;exact au.aH rfl h.br
  ·have c:(dV v).1=0:=cC;have e:cq v aj=(((vb v aj).1,0),(vb v aj).2):=(by unfold cq;rw[ay (by rw[c];exact λe=>e rfl)]);obtain⟨ho,e2⟩:=C9 hv.md.ba c;rw[e2]at h;rw[e,Q_];have ho2:0≤v.out∧v.out+65536<18446744073709551616:=⟨hv.out.1,by omega⟩;have t1:∀{w:World} {n9 pb pd ps:Nat} {x:N7},au w0 S R w (af n1 zS^af n9 (Ks.mk cw (jI v.sp aj (cZ v)).1)^(af p (sL v pb pd ps x.1)^af pb (Ks.mk rh v.bf)^kT pd v.bd^af ps (Ks.mk nQ (jI v.sp aj (cZ v)).2)^w_ x v.md)^bg)→TC p n1 n9 aj (λr w=>au w0 S R w (bs (r=((PS (eK v aj) (jI v.sp aj (cZ v)).1 aj).1,0)) (mR p (PS (eK v aj) (jI v.sp aj (cZ v)).1 aj).2))) w:=by
    intro w n9 pb pd ps x h;exact Yw (G:=bg) (v:=eK v aj) (pb:=pb) (pd:=pd) (ps:=ps) (x:=x) (sn:=(jI v.sp aj (cZ v)).1) hv.bf hbl hv.md hn hv.nx hL ho2 h (λw h=>au.aH rfl h.br)
   obtain⟨pb,pd,ps,x,h⟩:=(h.le (aJ _)).mR p;refine aM h λw h=>ac (ah h rfl (nr ?_ ?_))
   ·refine aK (mZ p pb pd ps x v hbl) h λw h=>?_;refine aN h rfl (nr ?_ ?_)
    ·refine aK (fV.sJ ps v.sp aj (cZ v)) h λw h=>?_;refine aD h λn9 w h=>aN h rfl (az h (by rfl) λw h=>?_);exact t1 (pb:=pb) (pd:=pd) (ps:=ps) (x:=x) h.aI
    ·refine aD h λn9 w h=>aN h rfl (aK (fV.sJ ps v.sp aj (cZ v)) h λw h=>?_);refine az h (by rfl) λw h=>?_;exact t1 (pb:=pb) (pd:=pd) (ps:=ps) (x:=x) h.aI
   ·refine aD h λn9 w h=>aN h rfl (aK (mZ p pb pd ps x v hbl) h λw h=>?_);refine aN h rfl (aK (fV.sJ ps v.sp aj (cZ v)) h λw h=>?_);refine az h (by rfl) λw h=>?_;exact t1 (pb:=pb) (pd:=pd) (ps:=ps) (x:=x) h.aI
end oP

namespace my
open bH bp eY fV
def PU(s:Sp)(sn:Sn):Bool:=!pH s||decide (sn.2.1≥oJ s)
def ye(s:Sp)(aj n:Int)(sn:Sn):Sp:=
 if PU s sn then(bJ (pD s) n,aj,sn.1,(if bJ (pD s) n>pL s then 0 else pL s),true,bJ (pG s) n,sn.2.1,sn.2.2.1,sn.2.2.2.2,dX sn.1 sn.2.2.2.1,dX aj sn.1)
 else(bJ (pD s) n,aj,pF s,(if bJ (pD s) n>pL s then 0 else pL s),true,bJ (pG s) n,oJ s,nI s,ob s,m_ s,nH s)
structure En(s:Sn):Prop where
 a:U s.1
 b:U s.2.1
 c:U s.2.2.1
 d:U s.2.2.2.1
theorem JH(p:Nat)(s:Sp)(hs:pW s)(aj n:Int)(hn:U aj)(hU:U n)(sn:Sn)(hsn:En sn):bu (Ui (some ⟨p,0⟩) aj n sn) (af p (Ks.mk nQ s)) (λ_=>af p (Ks.mk nQ (ye s aj n sn))):=
 bC λw0 S R h=>by
  refine aD h λn1 w h=>ae (λc=>(by simp at c)) λ_=>?_;refine ac (ah h rfl (aK (e_ (pD s) n hs.d hU) h λw h=>?_));obtain⟨l2,hl2⟩:∃l2,l2=if bJ (pD s) n>pL s then 0 else pL s:=⟨_,rfl⟩
  refine ac (aA h p (Ks.mk nQ (bJ (pD s) n,pT s,pF s,pL s,pH s,pG s,oJ s,nI s,ob s,m_ s,nH s)) rfl rfl rfl λw h=>?_);refine ac (aA h p (Ks.mk nQ (bJ (pD s) n,aj,pF s,pL s,pH s,pG s,oJ s,nI s,ob s,m_ s,nH s)) rfl rfl rfl λw h=>?_);refine aQ h (λ_=>af n1 (Ks.mk Zb sn)^af p (Ks.mk nQ (bJ (pD s) n,aj,pF s,l2,pH s,pG s,oJ s,nI s,ob s,m_ s,nH s))) (λ_=>True) (λ_ w _ h=>?_) ?_;rotate_left
  ·refine aM h λw h=>ac (ac (ah h rfl (ah h rfl (ae (λc=>?_) λc=>?_))))
   ·have c:bJ (pD s) n>pL s:=bV c;rw[aG c]at hl2;rw[hl2];refine ac (aA h p (Ks.mk nQ (bJ (pD s) n,aj,pF s,0,pH s,pG s,oJ s,nI s,ob s,m_ s,nH s)) rfl rfl rfl λw h=>?_);exact⟨trivial,h.aI⟩
   ·have c:¬bJ (pD s) n>pL s:=bY c;rw[ay c]at hl2;rw[hl2];exact⟨trivial,h.aI⟩
  ·refine ac (ah h rfl (aK (e_ (pG s) n hs.g hU) h λw h=>?_));refine ac (aA h p (Ks.mk nQ (bJ (pD s) n,aj,pF s,l2,pH s,bJ (pG s) n,oJ s,nI s,ob s,m_ s,nH s)) rfl rfl rfl λw h=>?_);obtain⟨e,he⟩:∃e:Sp,e=ye s aj n sn:=⟨_,rfl⟩;refine aQ h (λ_=>af n1 (Ks.mk Zb sn)^af p (Ks.mk nQ (pD e,pT e,pF e,pL e,pH s,pG e,oJ e,nI e,ob e,m_ e,nH e))) (λ_=>True) (λ_ w _ h=>?_) ?_
   ·refine ac (aA h p (Ks.mk nQ (pD e,pT e,pF e,pL e,true,pG e,oJ e,nI e,ob e,m_ e,nH e)) rfl rfl rfl λw h=>?_);have e2:ye s aj n sn=(pD e,pT e,pF e,pL e,true,pG e,oJ e,nI e,ob e,m_ e,nH e):=by rw[he];unfold ye;split<;>rfl
    rw[e2];exact h.aI
   ·refine aQ h (λ_=>af n1 (Ks.mk Zb sn)^af p (Ks.mk nQ (bJ (pD s) n,aj,pF s,l2,pH s,bJ (pG s) n,oJ s,nI s,ob s,m_ s,nH s))) (λy:Bool=>y=PU s sn) (λ(y:Bool) w hy h=>?_) ?_
    ·rw[hy];refine ae (λc=>?_) λc=>?_
     ·have e2:e=(bJ (pD s) n,aj,sn.1,l2,true,bJ (pG s) n,sn.2.1,sn.2.2.1,sn.2.2.2.2,dX sn.1 sn.2.2.2.1,dX aj sn.1):=(by rw[he,hl2];unfold ye;rw[aG c]);rw[e2];refine aM h λw h=>ah h rfl (ah h rfl (ah h rfl ?_));refine ac (aA h p (Ks.mk nQ (bJ (pD s) n,aj,pF s,l2,pH s,bJ (pG s) n,sn.2.1,nI s,ob s,m_ s,nH s)) rfl rfl rfl λw h=>?_);refine aN h rfl (aN h rfl ?_);refine ac (aA h p (Ks.mk nQ (bJ (pD s) n,aj,pF s,l2,pH s,bJ (pG s) n,sn.2.1,sn.2.2.1,ob s,m_ s,nH s)) rfl rfl rfl λw h=>?_);refine aN h rfl ?_;refine ac (aA h p (Ks.mk nQ (bJ (pD s) n,aj,pF s,l2,pH s,bJ (pG s) n,sn.2.1,sn.2.2.1,sn.2.2.2.2,m_ s,nH s)) rfl rfl rfl λw h=>?_);refine aM h λw h=>ah h rfl (ah h rfl (ah h rfl (aK (jg sn.1 sn.2.2.2.1 hsn.a hsn.d) h λw h=>?_)));refine aN h rfl (aK (jg aj sn.1 hn hsn.a) h λw h=>?_);refine ac (aA h p (Ks.mk nQ (bJ (pD s) n,aj,pF s,l2,pH s,bJ (pG s) n,sn.2.1,sn.2.2.1,sn.2.2.2.2,dX sn.1 sn.2.2.2.1,nH s)) rfl rfl rfl λw h=>?_);refine ac (aA h p (Ks.mk nQ (bJ (pD s) n,aj,pF s,l2,pH s,bJ (pG s) n,sn.2.1,sn.2.2.1,sn.2.2.2.2,dX sn.1 sn.2.2.2.1,dX aj sn.1)) rfl rfl rfl λw h=>?_);refine ah h rfl ?_;refine ac (aA h p (Ks.mk nQ (bJ (pD s) n,aj,sn.1,l2,pH s,bJ (pG s) n,sn.2.1,sn.2.2.1,sn.2.2.2.2,dX sn.1 sn.2.2.2.1,dX aj sn.1)) rfl rfl rfl λw h=>?_);exact⟨trivial,h.aI⟩
     ·have e2:e=(bJ (pD s) n,aj,pF s,l2,true,bJ (pG s) n,oJ s,nI s,ob s,m_ s,nH s):=(by rw[he,hl2];unfold ye;rw[ay (by rw[c];intro c;cases c)]);rw[e2];exact⟨trivial,h.aI⟩
    ·refine aM h λw h=>ac (ah h rfl (ae (λc=>?_) λc=>?_))
     ·have c:pH s=false:=cC;exact⟨by unfold PU;rw[c];rfl,h.aI⟩
     ·have c:pH s=true:=cC;refine ah h rfl (ac (ah h rfl ?_));exact⟨by unfold PU;rw[c];rfl,h.aI⟩
end my

namespace tS
open bH bp eY fV my
abbrev zSa:List Lf:=[aB 0,aB 0,aB 0,aB 0,aB 0,aB 0,aB 0,aB 0,bc false]
theorem O5(p s)(hs:pW s)(aj bo flight:Int)(hn:U aj):bu (UQ (some ⟨p,0⟩) aj bo flight) (af p (Ks.mk nQ s)) (λr=>bs (r=(gh s aj bo flight).1) (af p (Ks.mk nQ (gh s aj bo flight).2))):=
 bC λw0 S R h=>by
  refine aD h λn1 w h=>ae (λc=>(by simp at c)) λ_=>ac (ah (x:=pD s) h rfl (aD h λn5 w h=>az h (by rfl) λw h=>?_));obtain⟨e,he⟩:∃e,e=(gh s aj bo flight).1:=⟨_,rfl⟩;refine aQ h (λ_=>af n1 zSa^af p (Ks.mk nQ s)^af n5 (Ks.mk Tw e)) (λ_=>True) (λ_ w _ h=>?_) ?_
  ·refine ac (aA h p (Ks.mk nQ (pD s,pT s,pF s,pL s,false,0,0,0,false,0,0)) rfl rfl rfl λw h=>aw (b:=n5) (x:=e) h rfl (az h (by rfl) λw h=>aw (b:=n1) (x:=e) h rfl ?_));rw[←he,show(gh s aj bo flight).2=(pD s,pT s,pF s,pL s,false,0,0,0,false,0,0)from rfl];have h:au w0 S R w (af p (Ks.mk nQ (pD s,pT s,pF s,pL s,false,0,0,0,false,0,0))^af n5 (Ks.mk Tw e)):=h.aI;exact au.aH rfl h.br
  ·refine ac (ah (x:=(pH s,pG s,oJ s,nI s,ob s,m_ s,nH s)) h rfl (aD h λn10 w h=>az h (by rfl) λw h=>ah (x:=pH s) h rfl (ae (λc=>?_) λc=>?_)))
   ·have e2:e=(aj,pD s,oJ s,jz (m_ s) (dX aj (nI s)),nH s,pG s,bo,flight,ob s):=(by rw[he];unfold gh;rw[aG c]);refine aM h λw h=>ah (x:=pG s) h rfl (ah (x:=oJ s) h rfl (ah (x:=ob s) h rfl (ah (x:=nH s) h rfl ?_)));refine aA h n5 (Ks.mk Tw (aj,pD s,0,0,0,pG s,bo,flight,false)) rfl rfl rfl λw h=>?_;refine aN h rfl (aN h rfl (aN h rfl ?_));refine aA h n5 (Ks.mk Tw (aj,pD s,oJ s,0,0,pG s,bo,flight,false)) rfl rfl rfl λw h=>?_;refine aN h rfl (aN h rfl ?_);refine aA h n5 (Ks.mk Tw (aj,pD s,oJ s,0,0,pG s,bo,flight,ob s)) rfl rfl rfl λw h=>?_;refine aN h rfl ?_;refine aA h n5 (Ks.mk Tw (aj,pD s,oJ s,0,nH s,pG s,bo,flight,ob s)) rfl rfl rfl λw h=>?_;refine aM h λw h=>ah (x:=m_ s) h rfl (ah (x:=nI s) h rfl (aK (jg aj (nI s) hn hs.pt) h λw h=>?_));refine aN h rfl (aD h λn19 w h=>?_);have h:=h.co n19 KU [m_ s,dX aj (nI s)] rfl (by simp);have h:au _ _ _ _ (aS ⟨some ⟨n19,0⟩,2,2⟩ KU [m_ s,dX aj (nI s)]^_):=h;refine bP (A:=bg) (Q:=aV ⟨some ⟨n19,0⟩,2,2⟩ KU [m_ s,dX aj (nI s)]) (E8 ⟨some ⟨n19,0⟩,2,2⟩ (m_ s) (dX aj (nI s))) h λr w h=>?_;obtain⟨hr,h⟩:=h.aP;rw[hr];rw[e2];refine aA h n5 (Ks.mk Tw (aj,pD s,oJ s,jz (m_ s) (dX aj (nI s)),nH s,pG s,bo,flight,ob s)) rfl rfl rfl λw h=>?_;exact⟨trivial,h.aI⟩
   ·have e2:e=(aj,pD s,0,0,0,0,bo,flight,false):=(by rw[he];unfold gh;rw[ay (by rw[c];intro c;cases c)]);rw[e2];have h:au w0 S R w (af n1 zSa^af p (Ks.mk nQ s)^af n5 [aB aj,aB (pD s),aB 0,aB 0,aB 0,aB 0,aB bo,aB flight,bc false]):=h.aI;exact⟨trivial,h⟩
end tS

namespace nz
open bH bp gV fb gM fK eY fV eI fe lz ny oO oP my tS
theorem yI(hs:pW s){aj bo flight:Int}(hn:U aj)(hl:U bo)(hf:U flight):oi (gh s aj bo flight).1:=by
 have h1:=nB hn hs.pt;have h2:=hs.si;have h3:U (jz (m_ s) (dX aj (nI s))):=by
  unfold jz;repeat' split
  all_goals first|exact h1|exact h2|exact bm 0
 unfold gh;split
 ·exact⟨hn,hs.d,hs.pd,h3,hs.ai,hs.g,hl,hf⟩
 ·exact⟨hn,hs.d,bm 0,bm 0,bm 0,bm 0,hl,hf⟩
theorem B6(p v)(hv:pV v)(aj bo:Int)(hn:U aj)(hl:U bo):bu (Qi (some ⟨p,0⟩) aj bo) (mR p v) (λ_=>mR p (jX v aj bo)):=
 bC λw0 S R h=>by
  have hbl:v.bd.1.length≤4294967296:=by have:=hv.bl;omega
  have hts:=sQ v.md.ba v.bt hv.md.ba.1;have ew:u64.wrap (bB v)=bB v:=wu (by unfold bB;omega) (by unfold bB;omega);obtain⟨pb,pd,ps,x,h⟩:=(h.le (aJ _)).mR p;refine aM h λw h=>ac (ac (ah h rfl (ah h rfl (aK (mZ p pb pd ps x v hbl) h λw h=>?_))));refine aN h rfl (aN h rfl (aK (O5 ps v.sp hv.sp aj bo (cZ v) hn) h λw h=>?_));refine aN h rfl (aK (A1 p pb pd ps x v hv.md) h λw h=>?_);refine aN h rfl ?_;rw[ew];refine ar (Nv x v.md hv.md (gh v.sp aj bo (cZ v)).1 (yI hv.sp hn hl hv.fl) (bB v) ⟨by unfold bB;omega,by unfold bB;omega⟩) h λr w h=>?_;obtain⟨hr,h⟩:=h.aP;rw[show jX v aj bo={v with sp:=(gh v.sp aj bo (cZ v)).2,md:=pM v.md (gh v.sp aj bo (cZ v)).1 (bB v)}from rfl];exact(h.nF p pb pd ps x {v with sp:=(gh v.sp aj bo (cZ v)).2,md:=pM v.md (gh v.sp aj bo (cZ v)).1 (bB v)}).br
theorem pV.yh(hv:pV v):pV {v with bd:=(v.bd.1.map fo,v.bd.2)}:=
 {hv with bl:=(by show(v.bd.1.map fo).length≤4096;rw[fz];exact hv.bl),fl:=(by show U (dz (v.bd.1.map fo));rw[Ku];exact bm 0)}
theorem Li(p v)(hv:pV v)(aj:Int)(hn:U aj):bu (TU (some ⟨p,0⟩) aj) (mR p v) (λr=>bs (r=0) (mR p (io v aj))):=
 bC λw0 S R h=>by
  have hbl:v.bd.1.length≤4294967296:=by have:=hv.bl;omega
  refine ae (λc=>(by simp at c)) λ_=>?_;obtain⟨pb,pd,ps,x,h⟩:=(h.le (aJ _)).mR p;refine ac (ah h rfl (aK (fb.Nk pd v.bd hbl) h λw h=>?_));have h:au w0 S R w (mR p {v with bd:=(v.bd.1.map fo,v.bd.2)}^bg):=(h.nF p pb pd ps x {v with bd:=(v.bd.1.map fo,v.bd.2)}).aI;refine ar (B6 p {v with bd:=(v.bd.1.map fo,v.bd.2)} (pV.yh hv) aj (dz v.bd.1) hn hv.fl) h λ_ w h=>?_;exact au.aH rfl h.br
end nz

namespace yO
open bH bp gV fb gM fK eY fV eI fe lz ny oO oP my tS nz
abbrev KCf:Ks:=[.int .i64,.int .i64,.int .i64,.int .i64,.int .u64,.int .u64,.bool,.int .i64,.int .i64]
theorem O2(id:Int)(c):bu (ZV id c) bg (λr=>ex λp:Nat=>bs (r=some ⟨p,0⟩) (mR p (iO id c.2.2.2.2.2.2.2.2 c.2.2.2.2.2.2.2.1))):=
 bC λw0 S R h=>by
  obtain⟨m,hm⟩:∃m,m=bn c.2.2.2.2.2.2.2.2:=⟨_,rfl⟩;refine aD h λn1 w h=>ah (x:=c.2.2.2.2.2.2.2.2) h rfl (aM h λw h=>ah (x:=c.2.2.2.2.2.2.2.1) h rfl (ar (eY.y6 1073741824) h λr w h=>?_));obtain⟨pb,h⟩:=h.lV;obtain⟨hr,h⟩:=h.aP;rw[hr];have h:au w0 S R w (af pb (Ks.mk rh (0,0,0,1073741824))^_):=h;refine aN h rfl (ar fb.jD h λr w h=>?_);obtain⟨pd,h⟩:=h.lV;obtain⟨hr,h⟩:=h.aP;rw[hr];refine aN h rfl (ar fV.jD h λr w h=>?_);obtain⟨ps,h⟩:=h.lV;obtain⟨hr,h⟩:=h.aP;rw[hr];have hr2:100≤bn c.2.2.2.2.2.2.2.2∧bn c.2.2.2.2.2.2.2.2≤9000:=by
   unfold bn;repeat' split
   all_goals omega
  have ew:u64.wrap (if(9000:Int)<(if(100:Int)>c.2.2.2.2.2.2.2.2 then(100:Int)else c.2.2.2.2.2.2.2.2)then(9000:Int)else(if(100:Int)>c.2.2.2.2.2.2.2.2 then(100:Int)else c.2.2.2.2.2.2.2.2))=bn c.2.2.2.2.2.2.2.2:=wu (by unfold bn at hr2;omega) (by unfold bn at hr2;omega);refine aN h rfl ?_;rw[ew];refine ar (Ns (bn c.2.2.2.2.2.2.2.2)) h λr w h=>?_;obtain⟨x,h⟩:=h.lV;obtain⟨hr,h⟩:=h.aP;rw[hr];refine aN h rfl (aD h λn8 w h=>?_);have h:au w0 S R w (af n8 [aE id,aE (bn c.2.2.2.2.2.2.2.2),aE c.2.2.2.2.2.2.2.1,.ptr (some ⟨pb,0⟩),.ptr (some ⟨pd,0⟩),.ptr (some ⟨ps,0⟩),.ptr (some ⟨x.1,0⟩),aB 0,aB 0]^_):=h;rw[show iO id c.2.2.2.2.2.2.2.2 c.2.2.2.2.2.2.2.1=⟨id,bn c.2.2.2.2.2.2.2.2,c.2.2.2.2.2.2.2.1,(0,0,0,1073741824),([],0),Ym,mM (bn c.2.2.2.2.2.2.2.2),0,0⟩from rfl];exact au.ie n8 (au.aH rfl (h.nF n8 pb pd ps x ⟨id,bn c.2.2.2.2.2.2.2.2,c.2.2.2.2.2.2.2.1,(0,0,0,1073741824),([],0),Ym,mM (bn c.2.2.2.2.2.2.2.2),0,0⟩).br)
end yO

namespace nA
open bH bp gV fb gM fK eY fV eI fe lz ny oO oP my tS nz
abbrev Tf(q:Pc):PE:=(q.2.2.1,q.2.2.2.1,q.2.2.2.2.1,q.2.2.2.2.2.1,q.2.2.2.2.2.2.1)
abbrev sM(aj:Int)(s:Sp)(q:Pc):Sp:=ye s aj (u64.wrap (q.2.1-q.1)) (Tf q)
def rz(aj:Int)(s:Sp)(l:List Pc):Sp:=l.foldl (sM aj) s
def Cz(l:List Pc):Prop:=∀q∈l,En (Tf q)
theorem XY(l):U (dz l):=by
 have h:∀(l:List Pc) (n:Int),U n→U (l.foldl uu n):=by
  intro l
  induction l with
  |nil=>intro n h;exact h
  |cons p l ih=>intro n h;exact ih _ (by unfold uu;split;exact ur _;exact h)
 exact h l 0 (bm 0)
theorem zW:∀l:List Pc,U (cI l).2.1
 |[]=>bm 0
 |p::l=>by
  show U (if w7 p (cI l).2.2 then u64.wrap ((cI l).2.1+u64.wrap (p.2.1-p.1))else(cI l).2.1);split
  ·exact ur _
  ·exact zW l
theorem Jd(hs:pW s){aj:Int}(hn:U aj)(hq:En (Tf q)):pW (sM aj s q):=by
 have h1:=oT hs.d (ur (q.2.1-q.1));have h2:=oT hs.g (ur (q.2.1-q.1));have h3:U (if bJ (pD s) (u64.wrap (q.2.1-q.1))>pL s then 0 else pL s):=by
  split
  ·exact bm 0
  ·exact hs.l
 unfold sM ye;split
 ·exact⟨h1,hn,hq.a,h3,h2,hq.b,hq.c,nB hq.a hq.d,nB hn hq.a⟩
 ·exact⟨h1,hn,hs.f,h3,h2,hs.pd,hs.pt,hs.si,hs.ai⟩
abbrev LX(v:Sk)(upto:Int)(xs:List (Int×Int)):List Pc×Int:=((cI (eR upto xs v.bd.1)).1,v.bd.2)
def kZ(v:Sk)(aj upto:Int)(xs:List (Int×Int)):Sk:={v with bd:=LX v upto xs,bf:=(tN v.bf upto).2,sp:=rz aj v.sp (fQ upto xs v.bd.1)}
def om(v:Sk)(aj upto:Int)(xs:List (Int×Int)):Int×Sk:=if uN v.bd upto xs then(0,jX (kZ v aj upto xs) aj (cI (eR upto xs v.bd.1)).2.1)else(11,v)
theorem CC{aj:Int}(hn:U aj):∀(l:List Pc) (s:Sp),pW s→Cz l→pW (rz aj s l)
 |[],_,hs,_=>hs
 |q::l,s,hs,hl=>CC hn l (sM aj s q) (Jd hs hn (hl q (pq ..))) (λr hr=>hl r (nb _ hr))
theorem qY{upto:Int}{xs:List (Int×Int)}(h:Cz l):Cz (fQ upto xs l):=λq hq=>h q (ud.1 hq).1
theorem AZ(hv:pV v)(hp:Cz v.bd.1){aj:Int}(hn:U aj)(upto:Int)(xs:List (Int×Int)):pV (kZ v aj upto xs):=
  {
   hv with
   bf:=rR.ak hv.bf upto
   bl:=(by
     show(cI (eR upto xs v.bd.1)).1.length≤4096;rw[Fo];have:=qA upto xs v.bd.1 v.bd.1.length;rw[sE]at this;exact kW this hv.bl)
   sp:=CC hn _ _ hv.sp (qY hp)
   fl:=XY _}
end nA

namespace Ik
open bH bp gV fb gM fK eY fV eI fe lz ny oO oP my tS nz nA
abbrev KR:Ks:=[.int .u64,.int .u64]
theorem OQ(p v)(hv:pV v)(hp:Cz v.bd.1)(aj upto:Int)(hn:U aj)(a xs)(hx:xs.length≤4294967296):bu (TT (some ⟨p,0⟩) aj upto a) (mR p v^aV a KR xs) (λr=>bs (r=(om v aj upto xs).1) (mR p (om v aj upto xs).2)):=
 bC λw0 S R h=>by
  have hbl:=hv.bl;refine ae (λc=>(by simp at c)) λ_=>?_;obtain⟨pb,pd,ps,x,h⟩:=h.mR p;cases hm:uN v.bd upto xs with
  |false=>
   have e:om v aj upto xs=(11,v):=(by unfold om;rw[ay (by rw[hm];intro c;cases c)]);rw[e];refine ac (ah h rfl (bP (Q:=aV a KR xs) (Er pd v.bd upto a xs hx hm) h λr w h=>?_));obtain⟨⟨_,_,h3⟩,h⟩:=h.aP;refine ae (λ_=>?_) λc=>(by rw[h3]at c;cases c);rw[h3];have h:au w0 S R w (mR p v^bg):=(h.nF p pb pd ps x v).aI;exact au.aH rfl h.br
  |true=>
   have e:om v aj upto xs=(0,jX (kZ v aj upto xs) aj (cI (eR upto xs v.bd.1)).2.1):=(by unfold om;rw[aG hm]);rw[e];refine ac (ah h rfl (bP (Q:=aV a KR xs) (PR pd v.bd upto a xs (by omega) hx hm) h λr w h=>?_));obtain⟨r1,r2,r3⟩:=r;obtain⟨⟨h2,h3⟩,h⟩:=h.aP;dsimp only at h2 h3 h⊢;refine ae (λc=>(by rw[h3]at c;cases c)) λ_=>?_;refine ac (ah h rfl (ar (Gi pb v.bf upto) h λr w h=>?_));obtain⟨_,h⟩:=h.aP;have h:au w0 S R w (aS r1 aF (fQ upto xs v.bd.1)^(af p (sL v pb pd ps x.1)^af pb (Ks.mk rh (tN v.bf upto).2)^kT pd (LX v upto xs)^af ps (Ks.mk nQ v.sp)^w_ x v.md)^bg):=h.aI;refine fY (λ(y:Sl) (g:List Pc×Sp)=>aS y aF g.1^(af p (sL v pb pd ps x.1)^af pb (Ks.mk rh (tN v.bf upto).2)^kT pd (LX v upto xs)^af ps (Ks.mk nQ g.2)^w_ x v.md)^bg) (λ_ g=>pW g.2∧Cz g.1∧rz aj g.2 g.1=rz aj v.sp (fQ upto xs v.bd.1)) (λ_ g=>g.1.length) (fQ upto xs v.bd.1,v.sp) h ⟨hv.sp,qY hp,rfl⟩ ?_;rintro K (y:Sl) ⟨l,s⟩ w ⟨hs,hl,hE⟩ h k;dsimp only at hs hl hE h⊢;have hy:=(h.rd (s:=y)).2;have hcap:=pi (s:=y) (K:=aF) (xs:=l) h;refine ae (λc=>?_) λc=>?_
   ·have hl0:l=[]:=by
     have c:((y.len:Nat):Int)=0:=cC;cases l with
     |nil=>rfl
     |cons q l=>rw[hy]at c;simp at c;omega
    rw[hl0]at hE;have h:au w0 S R w (mR p (kZ v aj upto xs)^bg):=by
     rw[show kZ v aj upto xs={v with bd:=LX v upto xs,bf:=(tN v.bf upto).2,sp:=s} by unfold kZ;rw[←hE];rfl];exact(h.nF p pb pd ps x {v with bd:=LX v upto xs,bf:=(tN v.bf upto).2,sp:=s}).aI
    rw[h2];refine ar (B6 p (kZ v aj upto xs) (AZ hv hp hn upto xs) aj _ hn (zW _)) h λ_ w h=>?_;exact au.aH rfl h.br
   ·cases l with
    |nil=>rw[hy]at c;cases c
    |cons q l=>
     have hlen:y.len=l.length+1:=(by rw[hy];rfl);refine bS (s:=y) h (by decide) (by simp) (dP h y 0 (y:=q) rfl rfl (aD h λn12 w h=>az h (by rfl) λw h=>?_));refine wE (s:=y) h 1 y.len y.cap rfl rfl rfl rfl (by omega) (by rw[hlen];exact eE _) (by omega) (by omega) λs13 _ _ h=>?_;have ht:((q::l).take y.len).drop 1=l:=(by rw[jZ (by rw[hlen];exact eE _)];rfl);rw[ht]at h;refine aM h λw h=>ac (ah (x:=q.2.1) h rfl (ah (x:=q.1) h rfl (ah (x:=Tf q) h rfl (ah h rfl ?_))));refine ar (JH ps s hs aj (u64.wrap (q.2.1-q.1)) hn (ur _) (Tf q) (hl q (pq ..))) h λ_ w h=>?_;exact k s13 (l,sM aj s q) w ⟨Jd hs hn (hl q (pq ..)),λz hz=>hl z (nb _ hz),hE⟩ h.aI (An _)
end Ik

namespace oS
open bH bp gV fb gM fK eY fV eI fe lz ny oO oP my tS nz nA
structure wI(q:Pc):Prop where
 f:0≤iX q
 ft:iX q<xU q
 le:xU q-iX q≤65536
 t:xU q≤4611686018427387904
 s:En (Tf q)
 x:jO q=true→yC q=false
abbrev nv(l:List Pc):Prop:=∀q∈l,wI q
theorem VS(h:lG q=true):yC q=false∧jO q=false:=by
 unfold lG at h;cases h1:yC q<;>cases h2:jO q<;>rw[h1,h2]at h<;>first|exact⟨rfl,rfl⟩|cases h
theorem wI.lo(h:wI q)(hf:lG q=true)(x):wI (iA q x):=⟨h.f,h.ft,h.le,h.t,⟨h.s.a,h.s.b,h.s.c,h.s.d⟩,λ_=>(VS hf).1⟩
theorem wI.yh(h:wI q):wI (fo q):=by
 unfold fo;split
 ·exact h.lo (by assumption) true
 ·exact h
theorem wI.mark(h:wI q)(upto:Int)(xs:List (Int×Int)):wI (pe upto xs q):=by
 unfold pe;split
 ·exact⟨h.f,h.ft,h.le,h.t,⟨h.s.a,h.s.b,h.s.c,h.s.d⟩,λhx=>by cases hx⟩
 ·exact h
theorem wI.again{q:Pc}(h:wI q){s:PE}(hs:En s):wI (mI q s):=⟨h.f,h.ft,h.le,h.t,⟨hs.a,hs.b,hs.c,hs.d⟩,λhx=>by cases hx⟩
theorem Fp(h:nv l):nv (l.map fo):=λq hq=>by
 obtain⟨p,hp,rfl⟩:=pu.1 hq;exact(h p hp).yh
theorem Fq:∀{l:List Pc},nv l→nv (cI l).1
 |[],_=>λq hq=>by cases hq
 |p::l,h=>λq hq=>by
  have h1:=h p (pq ..);have h2:=Fq (l:=l) λq hq=>h q (nb _ hq);simp only[cI]at hq;split at hq
  ·rename_i hh;rcases ec.1 hq with rfl|hq
   ·exact h1.lo (by unfold w7 at hh;rw[d_]at hh;exact hh.1) true
   ·exact h2 q hq
  ·rcases ec.1 hq with rfl|hq
   ·exact h1
   ·exact h2 q hq
theorem NM(h:nv l)(upto:Int)(xs:List (Int×Int)):nv (eR upto xs l):=λq hq=>by
 obtain⟨p,hp,rfl⟩:=pu.1 hq;exact(h p (ud.1 hp).1).mark upto xs
theorem KK(h:nv l)(hs:En s):nv (dN l s):=λq hq=>by
 unfold dN at hq;split at hq
 ·rename_i p hp;split at hq
  ·exact h q hq
  ·rcases List.mem_or_eq_of_mem_set hq with hq|rfl
   ·exact h q hq
   ·exact(h p (gI hp)).again hs
 ·exact h q hq
theorem JJ(l s):(dN l s).length=l.length:=by
 unfold dN;split
 ·split
  ·rfl
  ·rw[rp]
 ·rfl
theorem zI(h:(bE l).2=true):∃q∈l,(bE l).1=(q.1,q.2.1):=by
 unfold bE at h⊢;split
 ·rename_i p hp;rw[hp]at h;dsimp only at h;split
  ·rename_i hc;rw[aG hc]at h;cases h
  ·exact⟨p,gI hp,rfl⟩
 ·rename_i hp;rw[hp]at h;cases h
theorem qn(h:nv l):ry l:=λhl=>by
 obtain⟨q,hq,e⟩:=zI hl;have h1:=h q hq;have h2:=h1.ft;have h3:=h1.le;rw[e];exact⟨by show 0≤xU q-iX q;omega,h3⟩
structure nj(k:Int)(v:Sk):Prop where
 ok:pV v
 pc:nv v.bd.1
 e:v.bd.2=bN v.bf
 w:bW v.bf≤k*1073741824
 o:v.out≤18014398509547520
theorem nj.ps{k:Int}(h:nj k v):Cz v.bd.1:=λq hq=>(h.pc q hq).s
theorem nj.le{k j:Int}(h:nj k v)(hj:k≤j):nj j v:={h with w:=by have:=h.w;omega}
theorem Rw(id bt cap:Int)(hc:-9223372036854775808≤cap∧cap<9223372036854775808):nj 0 (iO id bt cap) where
 ok:={
  bf:=⟨(by decide:(0:Int)≤0),(by decide:(0:Int)≤0),(by decide:(0:Int)≤0),(by decide:(0:Int)-0≤1073741824),(by decide:(1073741824:Int)≤1073741824),(by decide:(0:Int)≤4611686018427387904)⟩
  bl:=by show(0:Nat)≤4096;decide
  sp:=Ws
  md:=gr.new _
  bt:=rZ bt
  cap:=hc
  out:=bm 0
  nx:=bm 0
  fl:=bm 0}
 pc:=λq hq=>by cases hq
 e:=rfl
 w:=by show(0:Int)≤0*1073741824;decide
 o:=by show(0:Int)≤18014398509547520;decide
theorem nj.write{k:Int}(h:nj k v)(hk:k<4294967296)(n:Int):nj (k+1) (eM v n).2:=by
 have hw:=h.w;have hl:=h.ok.bf.ll;have hh:=h.ok.bf.nw;have hu:=h.ok.bf.un;have h0:=h.ok.bf.u;unfold eM Bg;split
 ·exact h.le (by omega)
 ·split
  ·exact h.le (by omega)
  ·rename_i c1 c2;have hb:bW v.bf+n≤bW v.bf+1073741824:=by omega
   have hok:rR (bW v.bf+n,bN v.bf,bU v.bf,bL v.bf):=⟨h0,hu,by show bN v.bf≤bW v.bf+n;omega,by show bW v.bf+n-bU v.bf≤bL v.bf;omega,hl,by show bW v.bf+n≤4611686018427387904;omega⟩;exact{ok:={h.ok with bf:=hok},pc:=h.pc,e:=h.e,w:=by show bW v.bf+n≤(k+1)*1073741824;omega,o:=h.o}
theorem nj.done{k:Int}(h:nj k v)(n:Int):nj k (cv v n).2:=by
 have ho:=h.ok.out;unfold U at ho;unfold cv;split
 ·exact h
 ·rename_i c;have hb:=h.o;exact{h with ok:={h.ok with out:=by show U (v.out-n);unfold U;omega},o:=by show v.out-n≤18014398509547520;omega}
theorem Nh(hs:pW s){f:Int}(hf:U f):pW (ow s f):=by
 have h1:U (if bJ (pD s) f>1 then bJ (pD s) f else 1):=by
  have:=oT hs.d hf;split
  ·exact this
  ·exact bm 1
 exact{hs with l:=h1}
theorem A0(hs:pW s){aj f:Int}(hn:U aj):pW (gU s aj f):=by
 unfold gU;split
 ·exact{hs with t:=hn,f:=hn}
 ·exact hs
theorem Jb(hs:pW s){aj f:Int}(hn:U aj):En (jI s aj f).1:=
 have h:=A0 hs (f:=f) hn
 ⟨hn,h.d,h.t,h.f⟩
theorem nj.may{k:Int}(h:nj k v):nj k (dV v).2:=by
 unfold dV;split
 ·dsimp only;split
  ·exact{h with ok:={h.ok with sp:=Nh h.ok.sp h.ok.fl}}
  ·exact h
 ·split
  ·exact h
  ·split<;>exact h
theorem SL{a b:Int}(ha:U a)(hb:U b):U (if a>b then a else b):=by split;exact ha;exact hb
theorem nj.put{k:Int}(h:nj k v){rg:Int×Int}{aj:Int}(hn:U aj)(hr:0≤rg.2-rg.1∧rg.2-rg.1≤65536)(ho:v.out<18014398509481984):nj k (lq v rg ag aj).2:=by
 have h1:=h.ok.out;unfold U at h1;exact{h with ok:={h.ok with out:=by show U (v.out+(rg.2-rg.1));unfold U;omega,nx:=oT (SL h.ok.nx hn) (oU (by omega) h.ok.md.ba)},o:=by show v.out+(rg.2-rg.1)≤18014398509547520;omega}
theorem vF(l):U (dz l):=XY l
theorem C7(h:(dV v).1=0)(hl:(bE v.bd.1).2=false):bW v.bf-bN v.bf≠0∧v.bd.1.length<4096:=by
 unfold dV at h;by_cases c1:(bE v.bd.1).2=false∧bW v.bf-bN v.bf=0
 ·rw[aG c1]at h;cases h
 ·rw[ay c1]at h;split at h
  ·cases h
  ·by_cases c3:(bE v.bd.1).2=false∧(v.bd.1.length:Int)≥4096
   ·rw[aG c3]at h;cases h
   ·exact⟨λe=>c1 ⟨hl,e⟩,by
     have:¬(v.bd.1.length:Int)≥4096:=λe=>c3 ⟨hl,e⟩;omega⟩
abbrev kM(v:Sk):Int:=min (bW v.bf-bN v.bf) (bB v)
theorem Ix{k:Int}(h:nj k v)(hu:bW v.bf-bN v.bf≠0):1≤kM v∧kM v≤65536∧kM v≤bW v.bf-bN v.bf:=by
 have:=sQ v.md.ba v.bt h.ok.md.ba.1;have:=h.ok.bf.nw;unfold kM bB;omega
theorem Yr{k:Int}(h:nj k v)(hu:bW v.bf-bN v.bf≠0):lx v.bf (bB v)=(((bN v.bf,bN v.bf+kM v),true),(bW v.bf,bN v.bf+kM v,bU v.bf,bL v.bf)):=by
 have:=sQ v.md.ba v.bt h.ok.md.ba.1;unfold lx;rw[aG ⟨by unfold bB;omega,hu⟩]
theorem R7{k:Int}(h:nj k v)(hu:bW v.bf-bN v.bf≠0)(hl:v.bd.1.length<4096)(s):ej v.bd (bN v.bf) (bN v.bf+kM v) s=(0,(v.bd.1++[uP (bN v.bf) (bN v.bf+kM v) s],bN v.bf+kM v)):=by
 have hc:=Ix h hu;have he:=h.e;unfold ej;rw[ay (by omega),ay (by omega)]
abbrev V8(v:Sk)(aj:Int):Sk:={eK v aj with bf:=(bW v.bf,bN v.bf+kM v,bU v.bf,bL v.bf),bd:=(v.bd.1++[uP (bN v.bf) (bN v.bf+kM v) (jI v.sp aj (cZ v)).1],bN v.bf+kM v)}
abbrev Wc(v:Sk)(aj:Int):Sk:={eK v aj with bd:=(dN v.bd.1 (jI v.sp aj (cZ v)).1,v.bd.2)}
theorem MS{k:Int}(h:nj k v)(aj:Int)(hm:(dV v).1=0)(hl:(bE v.bd.1).2=false):vb v aj=lq (V8 v aj) (bN v.bf,bN v.bf+kM v) false aj:=by
 obtain⟨h1,h2⟩:=C7 hm hl;unfold vb;rw[ay (by rw[hl];intro c;cases c),Yr h h1];dsimp only;rw[R7 h h1 h2]
theorem MT(v)(aj:Int)(hl:(bE v.bd.1).2=true):vb v aj=lq (Wc v aj) (bE v.bd.1).1 true aj:=by
 unfold vb;rw[aG hl]
theorem Fe{k:Int}(h:nj k v){aj:Int}(hn:U aj)(hm:(dV v).1=0)(hl:(bE v.bd.1).2=false):nj k (V8 v aj):=by
 obtain⟨h1,h2⟩:=C7 hm hl;have hc:=Ix h h1;have b1:=h.ok.bf.u;have b2:=h.ok.bf.un;have b3:=h.ok.bf.nw;have b6:=h.ok.bf.w;have hs:=Jb h.ok.sp (f:=cZ v) hn;exact{
  ok:={ h.ok with
   bf:=⟨b1,by show bU v.bf≤bN v.bf+kM v;omega,by show bN v.bf+kM v≤bW v.bf;omega,h.ok.bf.l,h.ok.bf.ll,b6⟩
   bl:=by show(v.bd.1++[_]).length≤4096;rw[gp];simp;omega
   sp:=A0 h.ok.sp hn
   fl:=vF _}
  pc:=λq hq=>by
   rcases eQ.1 hq with hq|hq
   ·exact h.pc q hq
   ·rw[j_.1 hq];exact⟨by show 0≤bN v.bf;omega,by show bN v.bf<bN v.bf+kM v;omega,by show bN v.bf+kM v-bN v.bf≤65536;omega,by show bN v.bf+kM v≤4611686018427387904;omega,hs,λhx=>by cases hx⟩
  e:=rfl
  w:=h.w
  o:=h.o}
theorem Fh{k:Int}(h:nj k v){aj:Int}(hn:U aj):nj k (Wc v aj):=
  { ok:={ h.ok with
      bl:=by show(dN v.bd.1 _).length≤4096;rw[JJ];exact h.ok.bl
      sp:=A0 h.ok.sp hn
      fl:=vF _}
    pc:=KK h.pc (Jb h.ok.sp hn)
    e:=h.e
    w:=h.w
    o:=h.o}
theorem nj.emit{k:Int}(h:nj k v){aj:Int}(hn:U aj):nj k (cq v aj).2:=by
 unfold cq;by_cases hm:(dV v).1=0
 ·rw[ay (by rw[hm];exact λe=>e rfl)];obtain⟨ho,_⟩:=C9 h.ok.md.ba hm;show nj k (vb v aj).2;cases hl:(bE v.bd.1).2 with
  |true=>
   rw[MT v aj hl];exact(Fh h hn).put hn (qn h.pc hl) ho
  |false=>
   rw[MS h aj hm hl];have hc:=Ix h (C7 hm hl).1;exact(Fe h hn hm hl).put hn (by show 0≤bN v.bf+kM v-bN v.bf∧bN v.bf+kM v-bN v.bf≤65536;omega) ho
 ·rw[aG hm];exact h.may
theorem B5{k:Int}(h:nj k v){aj bo:Int}(hn:U aj)(hl:U bo):nj k (jX v aj bo):=by
 have hts:=sQ v.md.ba v.bt h.ok.md.ba.1;have ht:=yI h.ok.sp hn hl h.ok.fl;have hsp:=h.ok.sp;exact{ h with ok:={ h.ok with
  sp:=⟨hsp.d,hsp.t,hsp.f,hsp.l,bm 0,bm 0,bm 0,bm 0,bm 0⟩
  md:=h.ok.md.dE ht ⟨by unfold bB;omega,by unfold bB;omega⟩}}
theorem nj.yh{k:Int}(h:nj k v){aj:Int}(hn:U aj):nj k (io v aj):=
 B5 (v:={v with bd:=(v.bd.1.map fo,v.bd.2)}) {ok:=pV.yh h.ok,pc:=Fp h.pc,e:=h.e,w:=h.w,o:=h.o} hn (vF _)
theorem Zo(b)(upto:Int):bN (tN b upto).2=bN b∧bW (tN b upto).2=bW b:=by unfold tN;split<;>exact⟨rfl,rfl⟩
end oS

namespace LH
open bH bp gV fb gM fK eY fV eI fe lz ny oO oP my tS nz yO nA oS
abbrev z7:Ks.T KCf:=(3000,15000,100,50,10000000000,0,false,100000,1000)
end LH

namespace yP
open bH bp gV fb gM fK eY fV eI fe lz ny oO oP my tS nz nA oS
def yg:List Pc→Int
 |[]=>0
 |p::l=>(if lG p then xU p-iX p else 0)+yg l
theorem ES:∀(l:List Pc),nv l→∀(n:Int),0≤n→n+65536*(l.length:Int)<18446744073709551616→l.foldl uu n=n+yg l
 |[],_,n,_,_=>by show n=n+0;omega
 |p::l,h,n,h0,h1=>by
  have hp:=h p (pq ..);have a1:=hp.ft;have a2:=hp.le;rw[gg]at h1;have e:uu n p=n+(if lG p then xU p-iX p else 0):=by
   unfold uu;split
   ·rw[ja (n:=xU p-iX p)];exact ja
   ·omega
  have hb:0≤(if lG p=true then xU p-iX p else 0)∧(if lG p=true then xU p-iX p else 0)≤65536:=by split<;>omega
  rw[Dz,ES l (λq hq=>h q (nb _ hq)) _ (by rw[e];omega) (by rw[e];omega),e,yg];omega
theorem qe(h:nv l)(hl:l.length≤4096):dz l=yg l:=by
 have:=ES l h 0 (by decide) (by omega);rw[dz,this];omega
theorem IB:∀(l m:List Pc),yg (l++m)=yg l+yg m
 |[],m=>by show yg m=0+yg m;omega
 |p::l,m=>by show _+yg (l++m)=_+yg l+yg m;rw[IB l m];omega
theorem SU:∀{l:List Pc},nv l→0≤yg l∧yg l≤65536*(l.length:Int)
 |[],_=>by show(0:Int)≤0∧(0:Int)≤65536*(0:Nat);omega
 |p::l,h=>by
  have hp:=h p (pq ..);have a1:=hp.ft;have a2:=hp.le;have:=SU (l:=l) (λq hq=>h q (nb _ hq));have hb:0≤(if lG p=true then xU p-iX p else 0)∧(if lG p=true then xU p-iX p else 0)≤65536:=by split<;>omega
  rw[gg,yg];omega
theorem IC:∀{l:List Pc} {i:Nat} {p:Pc} (q:Pc),l[i]?=some p→yg (l.set i q)=yg l-(if lG p then xU p-iX p else 0)+(if lG q then xU q-iX q else 0)
 |[],i,p,q,h=>by cases h
 |a::l,0,p,q,h=>by
  cases h;show _+yg l=(_+yg l)-_+_;omega
 |a::l,i+1,p,q,h=>by
  have:=IC (l:=l) (i:=i) (p:=p) q Y6;show _+yg (l.set i q)=(_+yg l)-_+_;rw[this];omega
theorem sY(h:¬fI f xs<0):∃x,xs[(fI f xs).toNat]?=some x∧f x=true:=by
 unfold fI at h⊢;split at h
 ·rename_i i hi;obtain⟨hl,hp,_⟩:=FA.1 hi;exact⟨xs[i],by simp[jx hl],hp⟩
 ·exact absurd (by decide:(-1:Int)<0) h
theorem IW{l:List Pc}(h:(bE l).2=true):∃i p,l[i]?=some p∧jO p=true∧(bE l).1=(iX p,xU p)∧∀s,dN l s=l.set i (mI p s):=by
 have hi:¬fI jO l<0:=λhc=>by rw[su hc]at h;cases h
 obtain⟨p,hp,hl⟩:=sY hi;refine⟨(fI jO l).toNat,p,hp,hl,?_,λs=>?_⟩
 ·unfold bE;rw[hp];dsimp only;rw[if_neg hi]
 ·unfold dN;rw[hp];dsimp only;rw[if_neg hi]
theorem LM(hl:nv l)(h:(bE l).2=true)(s):yg (dN l s)=yg l+((bE l).1.2-(bE l).1.1)∧1≤(bE l).1.2-(bE l).1.1:=by
 obtain⟨i,p,hp,hlo,e1,e2⟩:=IW h;have ho:=hl p (gI hp);have hsk:=ho.x hlo;have h1:=ho.ft;have f1:lG p=false:=by unfold lG;rw[hlo];simp
 have f2:lG (mI p s)=true:=by
  show(!(yC p)&&!false)=true;rw[hsk];rfl
 rw[e2,IC _ hp,e1,f1,f2];refine⟨?_,by show 1≤xU p-iX p;omega⟩;show yg l-0+(xU p-iX p)=yg l+(xU p-iX p);omega
theorem Ro(h:(dV v).1=0):cZ v<v.md.cN∧v.out<ik v.md.ba (bB v) v.cap:=by
 unfold dV at h;split at h
 ·cases h
 ·split at h
  ·cases h
  ·rename_i c;exact Dw.1 c
structure Xs(v' v:Sk):Prop where
 id:v'.id=v.id
 bt:v'.bt=v.bt
 cap:v'.cap=v.cap
 bf:v'.bf=v.bf
 bd:v'.bd=v.bd
 md:v'.md=v.md
 out:v'.out=v.out
 nx:v'.nx=v.nx
theorem E_(v):Xs (dV v).2 v:=by
 unfold dV;split
 ·dsimp only;split<;>exact⟨rfl,rfl,rfl,rfl,rfl,rfl,rfl,rfl⟩
 ·split
  ·exact⟨rfl,rfl,rfl,rfl,rfl,rfl,rfl,rfl⟩
  ·split<;>exact⟨rfl,rfl,rfl,rfl,rfl,rfl,rfl,rfl⟩
theorem MG{aj:Int}(h:(cq v aj).1.2=0):(dV v).1=0:=by
 by_cases hm:(dV v).1=0
 ·exact hm
 ·unfold cq at h;rw[aG hm]at h;exact h
abbrev gN(g:Sg):Int:=g.2.2.1
abbrev gF(g:Sg):Int:=g.2.1
abbrev gS(g:Sg):Int:=g.2.2.2.1
abbrev gA(g:Sg):Bool:=g.2.2.2.2
structure JG(v:Sk)(aj:Int)(g:Sg)(v':Sk):Prop where
 n:1≤gN g∧gN g≤65536
 id:g.1=v.id
 st:gS g=if v.nx>aj then v.nx else aj
 out:v'.out=v.out+gN g
 fl:cZ v'=cZ v+gN g
 cN:cZ v<v.md.cN
 lim:v.out<ik v.md.ba (bB v) v.cap
 md:v'.md=v.md
 Bs:v'.id=v.id
 bt:v'.bt=v.bt
 cap:v'.cap=v.cap
 nx:v'.nx=bJ (gS g) (dY (gN g) v.md.ba)
 new:gA g=false→gF g=bN v.bf∧v'.bf=(bW v.bf,bN v.bf+gN g,bU v.bf,bL v.bf)∧(bE v.bd.1).2=false∧gN g=kM v∧v'.bd=(v.bd.1++[uP (gF g) (gF g+gN g) (jI v.sp aj (cZ v)).1],gF g+gN g)
 ND:gA g=true→v'.bf=v.bf∧bE v.bd.1=((gF g,gF g+gN g),true)∧v'.bd=(dN v.bd.1 (jI v.sp aj (cZ v)).1,v.bd.2)
theorem BP{k:Int}(h:nj k v){aj:Int}(hn:U aj)(he:(cq v aj).1.2=0):JG v aj (cq v aj).1.1 (cq v aj).2:=by
 have hm:=MG he;obtain⟨m1,m2⟩:=Ro hm;have hbl:=h.ok.bl;have e:cq v aj=(((vb v aj).1,0),(vb v aj).2):=by unfold cq;rw[ay (λc=>c hm)]
 rw[e];dsimp only;cases hl:(bE v.bd.1).2 with
 |true=>
  have hp:=Fh h hn;obtain⟨f1,f2⟩:=LM h.pc hl (jI v.sp aj (cZ v)).1;obtain⟨_,f3⟩:=qn h.pc hl;rw[MT v aj hl];have hF:cZ (Wc v aj)=cZ v+((bE v.bd.1).1.2-(bE v.bd.1).1.1):=by
   show dz (dN v.bd.1 _)=dz v.bd.1+_;rw[qe hp.pc hp.ok.bl,qe h.pc h.ok.bl];exact f1
  exact⟨⟨f2,f3⟩,rfl,rfl,rfl,hF,m1,m2,rfl,rfl,rfl,rfl,rfl,λc=>(by cases c),λ_=>⟨rfl,by
   show bE v.bd.1=(((bE v.bd.1).1.1,(bE v.bd.1).1.1+((bE v.bd.1).1.2-(bE v.bd.1).1.1)),true);rw[show(bE v.bd.1).1.1+((bE v.bd.1).1.2-(bE v.bd.1).1.1)=(bE v.bd.1).1.2 by omega];exact xu rfl hl,rfl⟩⟩
 |false=>
  obtain⟨g1,g2⟩:=C7 hm hl;have hc:=Ix h g1;have hp:=Fe h hn hm hl;rw[MS h aj hm hl];have hw:bN v.bf+kM v-bN v.bf=kM v:=by omega
  have hF:cZ (V8 v aj)=cZ v+(bN v.bf+kM v-bN v.bf):=by
   show dz (v.bd.1++[_])=dz v.bd.1+_;rw[qe hp.pc hp.ok.bl,qe h.pc h.ok.bl,IB];show _+(bN v.bf+kM v-bN v.bf+0)=_;omega
  refine⟨⟨by show 1≤bN v.bf+kM v-bN v.bf;omega,by show bN v.bf+kM v-bN v.bf≤65536;omega⟩,rfl,rfl,rfl,hF,m1,m2,rfl,rfl,rfl,rfl,rfl,λ_=>⟨rfl,?_,hl,hw,?_⟩,λc=>(by cases c)⟩
  ·show(bW v.bf,bN v.bf+kM v,bU v.bf,bL v.bf)=(bW v.bf,bN v.bf+(bN v.bf+kM v-bN v.bf),bU v.bf,bL v.bf);rw[hw]
  ·show(v.bd.1++[uP (bN v.bf) (bN v.bf+kM v) _],bN v.bf+kM v)=(v.bd.1++[uP (bN v.bf) (bN v.bf+(bN v.bf+kM v-bN v.bf)) _],bN v.bf+(bN v.bf+kM v-bN v.bf));rw[hw]
end yP

namespace mV
open bH bp gV fb gM fK eY fV eI fe lz ny oO oP my tS nz yO nA Ik oS LH yP
theorem HN(ba tso most:Int)(hr:U ba)(ht:0≤tso∧tso≤65536)(hm:-9223372036854775808≤most∧most<9223372036854775808):bu (UB ba tso most) bg (λr=>bs (r=ik ba tso most) bg):=
 bC λw0 S R h=>by
  unfold U at hr;have e1:u64.wrap (if tso>(0:Int)then tso else(0:Int))=tso:=by rw[show(if tso>(0:Int)then tso else(0:Int))=tso by split<;>omega];exact ja
  have e2:u64.wrap (if most>(0:Int)then most else(0:Int))=(if most>(0:Int)then most else(0:Int)):=wu (by split<;>omega) (by split<;>omega);have e3:u64.wrap (ba.tdiv 1024)=ba/1024:=by rw[mD hr.1];exact ja
  rw[e1,e2,e3];refine aK (wj 2 tso (bm 2) ⟨by omega,by omega⟩) (h.le (aJ _)) λw h=>?_;have e4:rE 2 tso=2*tso:=by unfold rE;rw[aG (by omega)]
  rw[e4];refine au.aH ?_ h.gm;obtain⟨mx,hmx⟩:∃mx,mx=if most>(0:Int)then most else(0:Int):=⟨_,rfl⟩
  rw[←hmx];obtain⟨z,hz⟩:∃z,z=if mx<ba/1024 then mx else ba/1024:=⟨_,rfl⟩
  rw[←hz];unfold ik jz;have hm0:0≤mx:=by rw[hmx];split<;>omega
  have:0≤z:=by rw[hz];split<;>omega
  have e5:(if 2*tso≤0 then 0 else 2*tso)=2*tso:=by split<;>omega
  rw[e5];by_cases hp:most>0
  ·rw[aG hp]at hmx;rw[hmx]at hz;rw[←hz];by_cases c2:z>2*tso
   ·rw[aG c2,ay (Int.not_le.2 c2)]
   ·rw[ay c2,aG (Int.not_lt.1 c2)]
  ·rw[ay hp]at hmx;have hz0:z=0:=by rw[hz,hmx];split<;>omega
   have hle:(if most<ba/1024 then most else ba/1024)≤2*tso:=(by split<;>omega);rw[aG hle,ay (by omega)]
abbrev KO:Ks:=[.int .i64,.int .i64,.int .u64,.int .u64,.sl]
def later(aj gap:Int):Int:=if 4611686018427387904<bJ aj gap then 4611686018427387904 else bJ aj gap
structure py(k:Int)(v:Sk):Prop where
 i:nj k v
 kr:0≤k∧k≤1000000
 g:pG v.sp=0
 b:Eg.Bd v.md ((k+1)*1073741824)
theorem Im(a b:Int):bJ a b≤a+b∨bJ a b≤18446744073709551615∧a+b>18446744073709551615:=by unfold bJ;split<;>omega
theorem SM(aj:Int):∀(l:List Pc) (s:Sp),nv l→pG s+65536*(l.length:Int)<18446744073709551616→pG (rz aj s l)≤pG s+65536*(l.length:Int)
 |[],s,_,_=>by show pG s≤pG s+65536*((0:Nat):Int);omega
 |q::l,s,h,hb=>by
  have hq:=h q (pq ..);have h1:=hq.ft;have h2:=hq.le;rw[gg]at hb⊢;have e:pG (sM aj s q)≤pG s+65536:=by
   have e1:u64.wrap (xU q-iX q)=xU q-iX q:=ja;have e2:pG (sM aj s q)=bJ (pG s) (u64.wrap (xU q-iX q)):=(by unfold sM ye;split<;>rfl);rw[e2,e1];unfold bJ;split<;>omega
  have:=SM aj l (sM aj s q) (λr hr=>h r (nb _ hr)) (by omega);show pG (rz aj (sM aj s q) l)≤_;omega
theorem MM{k:Int}(h:nj k v):0≤cZ v∧cZ v≤268435456:=by
 have h1:=SU h.pc;have h2:=h.ok.bl;unfold cZ;rw[qe h.pc h.ok.bl];omega
theorem IR{k:Int}(h:nj k v)(hk:0≤k∧k≤1000000)(hg:pG v.sp≤268435456)(hb:Eg.Bd v.md ((k+1)*1073741824)){aj bo:Int}(hn:U aj)(hl:U bo):pG (jX v aj bo).sp=0∧Eg.Bd (jX v aj bo).md ((k+1+1)*1073741824):=by
 have ht:=yI h.ok.sp hn hl h.ok.fl;have hf:=MM h;have hm:=h.ok.md.bt;obtain⟨b1,b2⟩:=Eg.Yu hb h.ok.md ⟨by omega,by omega⟩ (by omega) ht (bB v);have ha:fE (gh v.sp aj bo (cZ v)).1≤268435456:=by
  unfold gh;split
  ·exact hg
  ·show(0:Int)≤_;decide
 have hfl:kO (gh v.sp aj bo (cZ v)).1=cZ v:=by unfold gh;split<;>rfl
 refine⟨rfl,⟨?_,by show(pM v.md (gh v.sp aj bo (cZ v)).1 (bB v)).gP≤_;omega⟩⟩;show(pM v.md (gh v.sp aj bo (cZ v)).1 (bB v)).cN≤_;rcases b1 with b|b
 ·have:=Im ((k+1)*1073741824) (fE (gh v.sp aj bo (cZ v)).1);omega
 ·have:=Im (kO (gh v.sp aj bo (cZ v)).1) (fE (gh v.sp aj bo (cZ v)).1);omega
theorem Sz{a b:Int}(h:Eg.Bd m a)(hab:a≤b):Eg.Bd m b:=⟨xn h.cN hab,xn h.gP hab⟩
theorem Rx(id bt cap:Int)(hc:-9223372036854775808≤cap∧cap<9223372036854775808):py 0 (iO id bt cap) where
 i:=Rw id bt cap hc
 kr:=by decide
 g:=rfl
 b:=by
  have:=IZ (bn bt);exact⟨by show 10*nn (bn bt)≤(0+1)*1073741824;omega,by show(0:Int)≤(0+1)*1073741824;decide⟩
theorem py.up{k:Int}(h:py k v)(hk:k<1000000)(hi:nj (k+1) v')(hg:pG v'.sp=pG v.sp)(hm:v'.md=v.md):py (k+1) v':=
 {i:=hi,kr:=by have:=h.kr;omega,g:=hg.trans h.g,b:=by rw[hm];exact Sz h.b (by omega)}
theorem X9(v):pG (dV v).2.sp=pG v.sp:=by
 unfold dV;split
 ·dsimp only;split<;>rfl
 ·split
  ·rfl
  ·split<;>rfl
theorem Ji(s)(aj f:Int):pG (gU s aj f)=pG s:=by unfold gU;split<;>rfl
theorem ME(v)(aj:Int):pG (cq v aj).2.sp=pG v.sp∧(cq v aj).2.md=v.md:=by
 unfold cq;split
 ·exact⟨X9 v,(E_ v).md⟩
 ·show pG (vb v aj).2.sp=pG v.sp∧(vb v aj).2.md=v.md;unfold vb;split
  ·exact⟨Ji _ _ _,rfl⟩
  ·exact⟨Ji _ _ _,rfl⟩
theorem py.write{k:Int}(h:py k v)(hk:k<1000000)(n:Int):py (k+1) (eM v n).2:=
 h.up hk (h.i.write (by omega) n) rfl rfl
theorem py.done{k:Int}(h:py k v)(hk:k<1000000)(n:Int):py (k+1) (cv v n).2:=
 h.up hk ((h.i.done n).le (by omega)) (by unfold cv;split<;>rfl) (by unfold cv;split<;>rfl)
theorem py.le1{k:Int}(h:py k v)(hk:k<1000000):py (k+1) v:=h.up hk (h.i.le (by omega)) rfl rfl
theorem py.yh{k:Int}(h:py k v)(hk:k<1000000){aj:Int}(hn:U aj):py (k+1) (io v aj):=by
 have hi:nj k {v with bd:=(v.bd.1.map fo,v.bd.2)}:={ok:=pV.yh h.i.ok,pc:=Fp h.i.pc,e:=h.i.e,w:=h.i.w,o:=h.i.o};obtain⟨a,b⟩:=IR hi h.kr (by show pG v.sp≤_;rw[h.g];decide) h.b hn (vF v.bd.1);exact{i:=(h.i.yh hn).le (by omega),kr:=by have:=h.kr;omega,g:=a,b:=b}
theorem py.Ep{k:Int}(h:py k v)(hk:k<1000000){aj:Int}(hn:U aj)(upto:Int)(xs:List (Int×Int)):py (k+1) (om v aj upto xs).2:=by
 by_cases hm:uN v.bd upto xs=true
 ·have hi:nj k (kZ v aj upto xs):=by
   obtain⟨e1,e2⟩:=Zo v.bf upto;exact{ok:=AZ h.i.ok h.i.ps hn upto xs,pc:=Fq (NM h.i.pc upto xs),e:=by show v.bd.2=bN (tN v.bf upto).2;rw[e1];exact h.i.e,w:=by show bW (tN v.bf upto).2≤_;rw[e2];exact h.i.w,o:=h.i.o}
  have hto:nv (fQ upto xs v.bd.1):=λq hq=>h.i.pc q (ud.1 hq).1;have hlen:(fQ upto xs v.bd.1).length≤4096:=kW (Ac _ _) h.i.ok.bl;have hg:pG (kZ v aj upto xs).sp≤268435456:=by
   show pG (rz aj v.sp (fQ upto xs v.bd.1))≤_;have:=SM aj (fQ upto xs v.bd.1) v.sp hto (by rw[h.g];omega);rw[h.g]at this;omega
  obtain⟨a,b⟩:=IR hi h.kr hg h.b hn (zW (eR upto xs v.bd.1));have e:(om v aj upto xs).2=jX (kZ v aj upto xs) aj (cI (eR upto xs v.bd.1)).2.1:=by unfold om;rw[aG hm]
  rw[e];exact{i:=(B5 hi hn (zW _)).le (by omega),kr:=by have:=h.kr;omega,g:=a,b:=b}
 ·have e:(om v aj upto xs).2=v:=by unfold om;rw[ay hm]
  rw[e];exact h.le1 hk
end mV

end Go.X
