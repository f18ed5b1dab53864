/- Contracts. -/
import Derived.Test.YtniflenfpbbikaaGreatDoorB7
set_option linter.all false
set_option autoImplicit true
set_option relaxedAutoImplicit true
namespace Go.X
open IntKind (u64 i64)
open Go.Proofs
namespace Xo
open bK bp f_ Jn lJ mh Lc xQ
abbrev mB(X:Cx)(c:Cf)(r:Nat→RF)(t:Nat→Bool)(a b:Sl):List Lf:=eA X c r t++.sl a::aX b::mw X
section
variable (X:Cx) (c:Cf) (r:Nat→RF) (t:Nat→Bool) (a b:Sl) {i:Nat} (hi:i<8)
include hi
theorem SE:Ks.un [.int .i64] (((mB X c r t a b).drop (68+i*8+7)).take 1)=some (tF (X.k i)):=by
 have:i=0∨i=1∨i=2∨i=3∨i=4∨i=5∨i=6∨i=7:=by omega
 rcases this with rfl|rfl|rfl|rfl|rfl|rfl|rfl|rfl<;>rfl
theorem XF(x:Int):dE (mB X c r t a b) (68+i*8) [aJ x]=mB {X with k:=gY X.k i (x,(X.k i).2)} c r t a b:=by
 have:i=0∨i=1∨i=2∨i=3∨i=4∨i=5∨i=6∨i=7:=by omega
 rcases this with rfl|rfl|rfl|rfl|rfl|rfl|rfl|rfl<;>rfl
theorem SD(x:Int):dE (mB X c r t a b) (68+i*8+7) [aJ x]=mB {X with k:=gY X.k i (wait (X.k i) x)} c r t a b:=by
 have:i=0∨i=1∨i=2∨i=3∨i=4∨i=5∨i=6∨i=7:=by omega
 rcases this with rfl|rfl|rfl|rfl|rfl|rfl|rfl|rfl<;>rfl
theorem Yt:Ks.un [.ptr] (((mB X c r t a b).drop (0+132+i*1)).take 1)=some (X.p i):=by
 have:i=0∨i=1∨i=2∨i=3∨i=4∨i=5∨i=6∨i=7:=by omega
 rcases this with rfl|rfl|rfl|rfl|rfl|rfl|rfl|rfl<;>rfl
theorem Yu(x:bO):dE (mB X c r t a b) (0+132+i*1) [.ptr x]=mB {X with p:=gY X.p i x} c r t a b:=by
 have:i=0∨i=1∨i=2∨i=3∨i=4∨i=5∨i=6∨i=7:=by omega
 rcases this with rfl|rfl|rfl|rfl|rfl|rfl|rfl|rfl<;>rfl
end
def OM(c:Ct)(f:Nat)(x:Int):Ct:=
 if f=0 then(c.1,x,c.2.2.1,c.2.2.2.1,c.2.2.2.2.1,c.2.2.2.2.2.1,c.2.2.2.2.2.2.1,c.2.2.2.2.2.2.2)
 else if f=1 then(c.1,c.2.1,x,c.2.2.2.1,c.2.2.2.2.1,c.2.2.2.2.2.1,c.2.2.2.2.2.2.1,c.2.2.2.2.2.2.2)
 else if f=2 then(c.1,c.2.1,c.2.2.1,x,c.2.2.2.2.1,c.2.2.2.2.2.1,c.2.2.2.2.2.2.1,c.2.2.2.2.2.2.2)
 else if f=3 then(c.1,c.2.1,c.2.2.1,c.2.2.2.1,x,c.2.2.2.2.2.1,c.2.2.2.2.2.2.1,c.2.2.2.2.2.2.2)
 else if f=4 then(c.1,c.2.1,c.2.2.1,c.2.2.2.1,c.2.2.2.2.1,x,c.2.2.2.2.2.2.1,c.2.2.2.2.2.2.2)
 else(c.1,c.2.1,c.2.2.1,c.2.2.2.1,c.2.2.2.2.1,c.2.2.2.2.2.1,x,c.2.2.2.2.2.2.2)
theorem SO(h:f<6):f=0∨f=1∨f=2∨f=3∨f=4∨f=5:=by omega
theorem PS(c){f:Nat}(h:f<6):ug c f=OM c f (inc (XS c f)):=by rcases SO h with rfl|rfl|rfl|rfl|rfl|rfl<;>rfl
theorem XE(X c r t a b)(hi:i<8)(hf:f<6):Ks.un [.int .i64] (((mB X c r t a b).drop (68+i*8+1+f*1)).take 1)=some (XS (X.k i) f):=by
 have:i=0∨i=1∨i=2∨i=3∨i=4∨i=5∨i=6∨i=7:=by omega
 rcases this with rfl|rfl|rfl|rfl|rfl|rfl|rfl|rfl<;>rcases SO hf with rfl|rfl|rfl|rfl|rfl|rfl<;>rfl
theorem XG(X c r t a b)(hi:i<8)(hf:f<6)(x:Int):dE (mB X c r t a b) (68+i*8+1+f*1) [aJ x]=mB {X with k:=gY X.k i (OM (X.k i) f x)} c r t a b:=by
 have:i=0∨i=1∨i=2∨i=3∨i=4∨i=5∨i=6∨i=7:=by omega
 rcases this with rfl|rfl|rfl|rfl|rfl|rfl|rfl|rfl<;>rcases SO hf with rfl|rfl|rfl|rfl|rfl|rfl<;>rfl
theorem HZ(l:Nat→α)(i:Nat)(x y:α):gY (gY l i x) i y=gY l i y:=by
 funext j
 by_cases e:j=i
 ·rw[e,fm,fm]
 ·rw[kh _ _ e,kh _ _ e,kh _ _ e]
def nF(k:Nat→Ct)(s f:Int):Nat→Ct:=
 if s<0∨s≥8 then k else if f<0∨f≥6 then k else if f≠0∧tF (k s.toNat)=0 then k else gY k s.toNat (s,(iV (k s.toNat) f).2.2)
def KL(k l:Nat→Ct):Prop:=∀i,(k i).2=(l i).2
theorem KL.note(h:KL k l)(s f:Int):KL (nF k s f) (gu l s f).2:=by
 unfold nF gu;by_cases hs:s<0∨s≥8
 ·rw[aF hs,aF hs];exact h
 ·rw[aw hs,aw hs];have hi:=h s.toNat;have hn:(iV (k s.toNat) f).2.2=(iV (l s.toNat) f).2.2:=by
   generalize k s.toNat=x at hi⊢;generalize l s.toNat=y at hi⊢;obtain⟨x1,x2⟩:=x;obtain⟨y1,y2⟩:=y;cases hi;unfold iV ug;simp only[wait]
   (repeat' split)<;>rfl
  have same:(iV (l s.toNat) f).2=l s.toNat→KL k (gY l s.toNat (iV (l s.toNat) f).2):=λe=>by rw[e,O6];exact h
  by_cases hf:f<0∨f≥6
  ·rw[aF hf];exact same (by unfold iV;rw[aF hf])
  ·rw[aw hf];by_cases hw:f≠0∧tF (k s.toNat)=0
   ·rw[aF hw];refine same ?_;unfold iV;rw[aw hf,aw hw.1,aF (by rw[←hw.2];show(l s.toNat).2.2.2.2.2.2.2=(k s.toNat).2.2.2.2.2.2.2;rw[hi])]
   ·rw[aw hw];intro j;show(gY k s.toNat _ j).2=(gY l s.toNat _ j).2;by_cases e:j=s.toNat
    ·rw[e,fm,fm];exact hn
    ·rw[kh _ _ e,kh _ _ e];exact h j
theorem tj(b X v)(s f:Int):bx (VD (some ⟨b,68⟩) s f) (cN b X v) (λ_=>cN b {X with k:=nF X.k s f} v):=
  bF λw0 S R h=>by
    refine ae (λc=>?_) λc=>?_
    · have c:s<0∨s≥8:=cS
      rw[show nF X.k s f=X.k by unfold nF;rw[aF c]];exact h
    have hs:¬(s<0∨s≥8):=cS;clear c;refine ae (λc=>?_) λc=>?_
    · have c:f<0∨f>5:=cS
      rw[show nF X.k s f=X.k by unfold nF;rw[aw hs,aF (by omega)]];exact h
    have hf:¬(f<0∨f>5):=cS;clear c;obtain⟨i,hi⟩:∃i:Nat,s=(i:Int):=⟨s.toNat,by omega⟩;obtain⟨g,hg⟩:∃g:Nat,f=(g:Int):=⟨f.toNat,by omega⟩;have hi8:i<8:=(by omega);have hg6:g<6:=(by omega);obtain⟨r,t,hq,h⟩:=(h.le (aG _)).cN b X v;obtain⟨s1,s2,h⟩:=h.kq b X (eA X v.c r t) v.lv;refine ac ⟨by omega,?_⟩;rw[hi,hg];simp only[eW];have back:∀{w:World} (k:Nat→Ct),au w0 S R w (ah b (mB {X with k:=k} v.c r t s1 s2)^aQ s1 KI v.lv.1^aQ s2 KI v.lv.2^eB (rC r (fP v)) 8^bg)→k=nF X.k i g→au w0 S R w (cN b {X with k:=nF X.k i g} v):=λ{w} k h e=>by
      rw[←e];have h:=h.dT b {X with k:=k} (eA {X with k:=k} v.c r t) s1 s2 v.lv;exact(h.gk b {X with k:=k} v r t hq).aK
    refine aS h (λ_=>ah b (mB X v.c r t s1 s2)^aQ s1 KI v.lv.1^aQ s2 KI v.lv.2^eB (rC r (fP v)) 8^bg) (λ_=>¬(g≠0∧tF (X.k i)=0)) (λ_ w hc h=>?_) ?_
    · refine ac (aB h b (mB {X with k:=gY X.k i ((i:Int),(X.k i).2)} v.c r t s1 s2) rfl (jd (by show 68+i*8+1≤140;omega)) (XF X v.c r t s1 s2 hi8 _) λw h=>?_)
      obtain⟨k1,hk1⟩:∃k1,k1=gY X.k i ((i:Int),(X.k i).2):=⟨_,rfl⟩;rw[←hk1]at h;have hk1i:k1 i=((i:Int),(X.k i).2):=by rw[hk1,fm]
      refine aM h λw h=>ac (ac ⟨by omega,aj h (XE {X with k:=k1} v.c r t s1 s2 hi8 hg6) ⟨by omega,?_⟩⟩);refine aB h b (mB {X with k:=gY X.k i (OM (k1 i) g (inc (XS (k1 i) g)))} v.c r t s1 s2) rfl (jd (by show 68+i*8+1+g*1+1≤140;omega)) (by rw[XG {X with k:=k1} v.c r t s1 s2 hi8 hg6,hk1,HZ]) λw h=>?_;rw[←PS (k1 i) hg6,hk1i]at h;have hnk:∀x:Ct,x=((i:Int),(iV (X.k i) g).2.2)→gY X.k i x=nF X.k i g:=λx hx=>by
        unfold nF;rw[aw (by omega),aw (by omega),eW,aw (by omega),hx]
      have hn1:iV (X.k i) g=if g=0 then(0,ug (wait (X.k i) (inc (tF (X.k i)))) g)else(0,ug (wait (X.k i) (dec (tF (X.k i)))) g):=by
        unfold iV;rw[aw (by omega)];by_cases e:g=0
        · rw[aF (by omega),aF e]
        · rw[aw (by omega),aw (λx=>hc ⟨e,x⟩),aw e]
      have hw7:∀y:Int,wait (ug ((i:Int),(X.k i).2) g) y=((i:Int),(ug (wait (X.k i) y) g).2):=λy=>by rcases SO hg6 with rfl|rfl|rfl|rfl|rfl|rfl<;>rfl
      have hc7:tF (ug ((i:Int),(X.k i).2) g)=tF (X.k i):=(by rcases SO hg6 with rfl|rfl|rfl|rfl|rfl|rfl<;>rfl);obtain⟨k2,hk2⟩:∃k2,k2=gY X.k i (ug ((i:Int),(X.k i).2) g):=⟨_,rfl⟩;rw[←hk2]at h;have hk2i:k2 i=ug ((i:Int),(X.k i).2) g:=(by rw[hk2,fm]);have hl:=SE {X with k:=k2} v.c r t s1 s2 hi8;dsimp only at hl;rw[hk2i,hc7]at hl;refine ae (λc=>?_) λc=>?_
      · have c:g=0:=by
         have c:(g:Int)=0:=cS;omega
        refine ac (aj h hl (ac (aB h b (mB {X with k:=gY X.k i (wait (k2 i) (inc (tF (X.k i))))} v.c r t s1 s2) rfl (jd (by show 68+i*8+7+1≤140;omega)) (by rw[SD {X with k:=k2} v.c r t s1 s2 hi8,hk2,HZ]) λw h=>?_)));exact back _ h (hnk _ (by rw[hk2i,hw7,hn1,aF c]))
      · have c:¬g=0:=by
         have c:¬(g:Int)=0:=cS;omega
        refine ac (aj h hl (ac (aB h b (mB {X with k:=gY X.k i (wait (k2 i) (dec (tF (X.k i))))} v.c r t s1 s2) rfl (jd (by show 68+i*8+7+1≤140;omega)) (by rw[SD {X with k:=k2} v.c r t s1 s2 hi8,hk2,HZ]) λw h=>?_)));exact back _ h (hnk _ (by rw[hk2i,hw7,hn1,aw c]))
    · refine ae (λc=>?_) λc=>?_
      · have c:g≠0:=by
         have c:¬(g:Int)=0:=cS;omega
        refine ac (aj h (SE X v.c r t s1 s2 hi8) (ae (λc2=>?_) λc2=>?_))
        · have c2:tF (X.k i)=0:=gJ
          exact back X.k h (by unfold nF;rw[aw (by omega),aw (by omega),eW,aF ⟨by omega,c2⟩])
        · have c2:¬tF (X.k i)=0:=gJ
          exact⟨λx=>c2 x.2,h⟩
      · have c:g=0:=by
         have c:(g:Int)=0:=cS;omega
        exact⟨λx=>x.1 c,h⟩
end Xo

namespace WU
open bK bp f_ Jn _root_.Go.X.Tree jE lM mV fh lJ mh F9 Ea yp A3 Pr Lb Ps Tq Lc Ss
theorem v7(s:Sl)(rates:List Int)(i:Nat):bx (T3 s (i:Int)) (bg^aZ s KU rates) (λx=>br (x=gg rates i) bg):=
 bF λw0 S R h=>by
  have h:au w0 S R w0 (aZ s KU rates^bg):=h.aK;have hs:=(h.rd (s:=s)).2;refine ae (λc=>?_) λc=>?_
  ·have c:(i:Int)<((s.len:Nat):Int):=cS;obtain⟨x,hx⟩:∃x,rates[i]?=some x:=⟨_,gG (by omega)⟩;refine bT (s:=s) h (by omega) (by omega) (eE h s i hx (by rw[eW];rfl) ?_);refine au.aH ?_ h.h_;show x=gg rates i;unfold gg;rw[hx]
  ·have c:¬(i:Int)<((s.len:Nat):Int):=cS;refine au.aH ?_ h.h_;show(18446744073709551615:Int)=gg rates i;unfold gg;rw[q_ (by omega)]
theorem Cb(h:Rq u r t)(hf:u.fl i=some f)(hf':u'.fl i=some f')(hfl:∀j,j≠i→u'.fl j=u.fl j)(hpl:∀j,j≠i→fo u' j=fo u j)(x:RF)(hx:x=((i:Int),f'.cr,fo u' i,f'.nx,f'.si,mc x)):Rq u' (gm r i x) t:=⟨λq hq8=>by
  by_cases e:q=i
  ·rw[e,hf'];rw[e]at hq8;rw[h.t i hq8,hf];rfl
  ·rw[hfl q e];exact h.t q hq8,λq hq8=>by
  by_cases e:q=i
  ·rw[e,da];unfold yo;rw[hf'];exact hx
  ·rw[fN _ _ e];have:=h.r q hq8;unfold yo at this⊢;rw[hfl q e,hpl q e];exact this⟩
theorem G1(lv){i j:Int}(h:j≠i):bY (lv.1,lv.2++[i]) j=bY lv j:=by
 unfold bY;simp[h]
theorem qo(hh:(bP lv).2.2=true){i:Int}(hi:(bP lv).1=i):qK lv i 2=(eO lv).2:=by
 unfold qK eO;rw[aF rfl,aF hh,hi]
theorem qq(hh:(bP lv).2.2=true){i:Int}(hi:(bP lv).1=i){p:Int}(hp:p≠2):qK lv i p=(cj lv).2:=by
 unfold qK cj;rw[aw hp,aF hh,hi]
theorem uH(lv)(i:Int):bY (qK lv i 2) i=2:=by
 unfold qK bY dI;rw[aF rfl];simp
theorem zV(lv)(i:Int){p:Int}(hp:p≠2):bY (qK lv i p) i=0:=by
 unfold qK;rw[aw hp];exact lX.2 (xo lv i)
theorem oE(lv){i j:Int}(p:Int)(h:j≠i):bY (qK lv i p) j=bY lv j:=by
 unfold qK;split
 ·rw[show((dI lv i).1,(dI lv i).2++[i])=((dI lv i).1,(dI lv i).2++[i])from rfl,G1 (dI lv i) h,xq lv h]
 ·exact xq lv h
theorem OO(r i)(p:Int)(xs):eB (rC (gm r i (xp (r i) p)) xs) 8=eB (rC r xs) 8:=iw 8 λq _=>by
 show aQ (mc (gm r i (xp (r i) p) q)) KS (xs q)=aQ (mc (r q)) KS (xs q);by_cases e:q=i
 ·rw[e,da]
 ·rw[fN _ _ e]
abbrev nn(u:Qm)(k:Key)(l:List Key):Qm:={u with ks:=l,lv:=(u.lv.1,u.lv.2++[k.2])}
theorem Mw(hk:u.ks=k::l){af:Int}(h:k.1≤af):mW (nn u k l) af=mW u af:=by
 show(⟨u.c,u.fl,(u.lv.1,(u.lv.2++[k.2])++(l.takeWhile λk=>decide (k.1≤af)).map Prod.snd),l.dropWhile λk=>decide (k.1≤af),u.n⟩:Qm)=⟨u.c,u.fl,(u.lv.1,u.lv.2++(u.ks.takeWhile λk=>decide (k.1≤af)).map Prod.snd),u.ks.dropWhile λk=>decide (k.1≤af),u.n⟩;rw[hk,Ap,Dm,aF Zg,aF Zg];simp
theorem QS(hu:iM u)(hk:u.ks=k::l):iM (nn u k l):=by
 obtain⟨i,f,hf,hs,hni,he⟩:=(hu.ks k).1 (by rw[hk];simp);have hi8:=(hu.fl i f hf).1;have hp:=RE (v:=u.lv) hi8 hni;have hk2:k.2=(i:Int):=by rw[he]
 have hokl:wG (u.lv.1,u.lv.2++[(i:Int)]):=by
  have:=hu.lv.push (i:Int) false;rwa[hp]at this
 have hsr:=hu.wH;rw[hk]at hsr;have hnd:=hu.wH.nodup;rw[hk]at hnd;have hin:∀j:Nat,nS (u.lv.1,u.lv.2++[(i:Int)]) j↔nS u.lv j∨j=i:=λj=>by
  unfold nS;rw[←iD,dX,gH];exact⟨λh=>h.imp id (λe=>by omega),λh=>h.imp id (λe=>by omega)⟩
 have e:jK u.fl i (u.fl i)=u.fl:=DV rfl;have:=hu.dE hi8 (u.fl i) (u.lv.1,u.lv.2++[(i:Int)]) l u.n hokl (λj hj=>by rw[hin];exact⟨λh=>h.elim id λe=>absurd e hj,.inl⟩) (λ_=>⟨f,hf⟩) (λg hg=>(hu.fl i g hg).2) (λq=>?_) (ra.1 hsr).2 (by omega) hu.le
 ·rw[e]at this;unfold nn;rw[hk2];exact this
 ·constructor
  ·intro hq;left;refine⟨by rw[hk];exact mz _ hq,λe2=>?_⟩;have hqm:q∈u.ks:=by rw[hk];exact mz _ hq
   have:=key_inj hu hqm (b:=k) (by rw[hk];simp) (by rw[e2,hk2]);rw[this]at hq;exact(lD.1 hnd).1 hq
  ·rintro(⟨hq,hne⟩|⟨g,hg,_,hn,_⟩)
   ·rw[hk]at hq;rcases dY.1 hq with rfl|hq
    ·exact absurd hk2 hne
    ·exact hq
   ·exact absurd ((hin i).2 (.inr rfl)) hn
theorem FG(b X v)(hv:iM v)(af:Int)(hn:U af)(s)(rates:List Int)(hr:∀x∈rates,U x):bx (Y4 (some ⟨b,1⟩) af s)
  (cN b X v^aZ s KU rates) (λx=>br (x=Bm (gU v af rates).1) (cN b X (gU v af rates).2)):=
 bF λw0 S R h=>by
  refine aD h λn1 w h=>?_;have h:au w0 S R w (ah n1 zS^aZ s KU rates^cN b X v):=h.aK;refine aS h (λ_=>ah n1 zS^aZ s KU rates^cN b X (mW v af)) (λ_=>True) (λ_ w _ h=>?_) ?_
  ·refine fV (λ(_:Unit) (u:Qm)=>ah n1 zS^aZ s KU rates^cN b X u) (λ_ u=>iM u∧∃k,mu u<k∧jW af rates k u=gU v af rates) (λ_ u=>mu u) (mW v af) h ⟨hv.due af,_,xw _,rfl⟩ ?_;rintro K (y:Unit) u w ⟨hu,k,hk,hR⟩ h next
   have hl:=hu.lv.GC;cases k with
   |zero=>omega
   |succ k=>
   obtain⟨r,t,hq,h⟩:=h.cN b X u;refine ac (aq (GW b X (eA X u.c r t) (1+65) rfl u.lv) h λx w h=>?_);obtain⟨hx,h⟩:=h.aP;rw[hx];cases hh:(bP u.lv).2.2 with
   |false=>
    rw[vE hh]at hR;refine ae (λ_=>?_) λc=>(by simp at c);refine aA h (by rfl) λw h=>ay (b:=n1) (x:=Ro) h rfl ?_;rw[←hR];exact au.aH rfl (h.gk b X u r t hq).aK
   |true=>
    refine ae (λc=>(by simp at c)) λ_=>?_;have hm:=kp hh;have hxr:=hu.lv.2 _ hm;obtain⟨i,hi⟩:∃i:Nat,(bP u.lv).1=(i:Int):=⟨(bP u.lv).1.toNat,by omega⟩;obtain⟨f,hf⟩:=hu.th i (by rw[hi]at hm;exact hm);have hA:tx u i f:=⟨hu,hi,hh,hf⟩;have hi8:=hA.lt;have hF:=(hu.fl i f hf).2;have hcr:=hF.cr;have hqq:=hu.cf.q;rw[vD hA]at hR;obtain⟨q1,q2,q3⟩:=hq.some hi8 hf;have hit:((i:Nat):Int).toNat=i:=eW i;rw[hi];refine ac ⟨by omega,?_⟩;rw[hit];obtain⟨s1,s2,h⟩:=h.kq b X (eA X u.c r t) u.lv;have hb:∀o m:Nat,o+m≤140→Nat.ble (o+m) 140=true:=λo m h=>jd h;refine ac (aj h (DK X u.c r t s1 s2 hi8) ?_);have e1:(r i).2.1=f.cr:=by rw[q2]
    rw[e1];refine ae (λc=>?_) λc=>?_
    ·have c:f.cr≤0:=cS;rw[aF c]at hR;have hcw:i64.wrap (f.cr+cQ u.c)=f.cr+cQ u.c:=fu;refine aM h λw h=>ac (ac (aj h (DK X u.c r t s1 s2 hi8) (aj h rfl (ac ?_))));rw[e1];rw[show i64.wrap (f.cr+cQ u.c)=f.cr+cQ u.c from hcw];refine aB h b (eA X u.c (gm r i ((r i).1,f.cr+cQ u.c,(r i).2.2.1,(r i).2.2.2.1,(r i).2.2.2.2.1,(r i).2.2.2.2.2)) t++.sl s1::aX s2::mw X) rfl (jd (by show 1+9+i*6+1+1≤140;omega)) (HM X u.c r t s1 s2 hi8 _) λw h=>?_;obtain⟨r',hr'⟩:∃r',r'=gm r i ((r i).1,f.cr+cQ u.c,(r i).2.2.1,(r i).2.2.2.1,(r i).2.2.2.2.1,(r i).2.2.2.2.2):=⟨_,rfl⟩;rw[←hr']at h;have h:=h.dT b X (eA X u.c r' t) s1 s2 u.lv;refine aq (vV b X u.c r' t u.lv hu.lv i hi8 2 (by decide)) h λ_ w h=>?_;have hri:r' i=((r i).1,f.cr+cQ u.c,(r i).2.2.1,(r i).2.2.2.1,(r i).2.2.2.2.1,(r i).2.2.2.2.2):=(by rw[hr',da]);have hup:gm r' i (xp (r' i) 2)=gm r i ((i:Int),f.cr+cQ u.c,2,f.nx,f.si,mc (r i)):=by
      funext q
      by_cases e:q=i
      ·rw[e,da,da,hri];show((r i).1,f.cr+cQ u.c,2,(r i).2.2.2.1,(r i).2.2.2.2.1,(r i).2.2.2.2.2)=_;rw[q2]
      ·rw[fN _ _ e,fN _ _ e,hr',fN _ _ e]
     rw[hup,qo hh hi]at h;have hpi:fo {u with fl:=jK u.fl i (some {f with cr:=f.cr+cQ u.c}),lv:=(eO u.lv).2} i=2:=by
      unfold fo;rw[←qo hh hi,uH];rfl
     have hq2:=Cb (u':={u with fl:=jK u.fl i (some {f with cr:=f.cr+cQ u.c}),lv:=(eO u.lv).2}) hq hf (co _ _ _) (λj e=>ec _ _ e) (λj e=>kv (ec _ _ e) (by rw[←qo hh hi];exact oE u.lv 2 (by omega))) ((i:Int),f.cr+cQ u.c,2,f.nx,f.si,mc (r i)) (by rw[hpi]);have hs2:fP {u with fl:=jK u.fl i (some {f with cr:=f.cr+cQ u.c}),lv:=(eO u.lv).2} i=f.sg:=by
      unfold fP;rw[show({u with fl:=jK u.fl i (some {f with cr:=f.cr+cQ u.c}),lv:=(eO u.lv).2}:Qm).fl i=_ from co _ _ _]
     have h:=h.A8 r (fP u) hi8;rw[q3]at h;have h:=h.KX r (gm r i ((i:Int),f.cr+cQ u.c,2,f.nx,f.si,mc (r i))) (fP u) (fP {u with fl:=jK u.fl i (some {f with cr:=f.cr+cQ u.c}),lv:=(eO u.lv).2}) hi8 (λj e=>fN _ _ e) (λj e=>xH u i _ _ _ _ e) (tk:=by rw[hs2,da];infer_instance);have hmu:=qE hA c;exact next () {u with fl:=jK u.fl i (some {f with cr:=f.cr+cQ u.c}),lv:=(eO u.lv).2} w ⟨hA.w8 c,k,by omega,hR⟩ (h.gk b X {u with fl:=jK u.fl i (some {f with cr:=f.cr+cQ u.c}),lv:=(eO u.lv).2} _ t hq2).aK hmu
    have c:¬f.cr≤0:=cS;rw[aw c]at hR;have hsl:(mc (r i)).len=f.sg.length:=by
     have h:=h.A8 r (fP u) hi8;have:=(h.rd (s:=mc (r i))).2;rw[q3]at this;exact this
    refine aS h (λ_=>ah n1 zS^aZ s KU rates^kq b X (eA X u.c r t) u.lv^eB (rC r (fP u)) 8) (λy:Bool=>y=true↔f.sg=[]∧((bP u.lv).2.1=true∧u.lv.2≠[])) (λ(y:Bool) w hy h=>?_) ?_
    ·refine ae (λc2=>?_) λc2=>?_
     ·obtain⟨e3,e4⟩:=hy.1 c2;rw[e3]at hR;simp only at hR;rw[aF e4]at hR;refine aq (vV b X u.c r t u.lv hu.lv i hi8 2 (by decide)) h λ_ w h=>?_;rw[qo hh hi]at h;have hpi:fo {u with lv:=(eO u.lv).2} i=2:=by
       unfold fo;rw[←qo hh hi,uH];rfl
      have hq2:=Cb (u':={u with lv:=(eO u.lv).2}) hq hf hf (λ_ _=>rfl) (λj e=>kv rfl (by rw[←qo hh hi];exact oE u.lv 2 (by omega))) (xp (r i) 2) (by rw[hpi];show((r i).1,(r i).2.1,2,(r i).2.2.2.1,(r i).2.2.2.2.1,mc (r i))=_;rw[q2]);rw[←OO r i 2 (fP u),show fP u=fP {u with lv:=(eO u.lv).2}from rfl]at h;have hmu:=ue hA e4.1;exact next () {u with lv:=(eO u.lv).2} w ⟨hA.back,k,by omega,hR⟩ (h.gk b X {u with lv:=(eO u.lv).2} (gm r i (xp (r i) 2)) t hq2).aK hmu
     have c2:¬(f.sg=[]∧((bP u.lv).2.1=true∧u.lv.2≠[])):=λx=>by have:=hy.2 x;rw[c2]at this;cases this
     obtain⟨s1,s2,h⟩:=h.kq b X (eA X u.c r t) u.lv;refine ac (aj h (sF X u.c r t s1 s2 hi8) ?_);refine ae (λc3=>?_) λc3=>?_
     ·have c3:(mc (r i)).len=0:=by
       have c3:(((mc (r i)).len:Nat):Int)=0:=(by simpa using c3);omega
      have e3:f.sg=[]:=nX (by omega);rw[e3]at hR;simp only at hR;rw[aw (λx=>c2 ⟨e3,x⟩)]at hR;have h:=h.dT b X (eA X u.c r t) s1 s2 u.lv;refine aq (vV b X u.c r t u.lv hu.lv i hi8 0 (by decide)) h λ_ w h=>?_;rw[qq hh hi (by decide)]at h;obtain⟨s1,s2,h⟩:=h.kq b X (eA X u.c (gm r i (xp (r i) 0)) t) (cj u.lv).2;refine ac (aB h b (eA X u.c (gm (gm r i (xp (r i) 0)) i ((gm r i (xp (r i) 0) i).1,(gm r i (xp (r i) 0) i).2.1,(gm r i (xp (r i) 0) i).2.2.1,(gm r i (xp (r i) 0) i).2.2.2.1,af,(gm r i (xp (r i) 0) i).2.2.2.2.2)) t++.sl s1::aX s2::mw X) rfl (jd (by show 1+9+i*6+4+1≤140;omega)) (OA X u.c _ t s1 s2 hi8 af) λw h=>?_);have hup:gm (gm r i (xp (r i) 0)) i ((gm r i (xp (r i) 0) i).1,(gm r i (xp (r i) 0) i).2.1,(gm r i (xp (r i) 0) i).2.2.1,(gm r i (xp (r i) 0) i).2.2.2.1,af,(gm r i (xp (r i) 0) i).2.2.2.2.2)=gm r i ((i:Int),f.cr,0,f.nx,af,mc (r i)):=by
       funext q
       by_cases e:q=i
       ·rw[e,da,da,da];show((r i).1,(r i).2.1,0,(r i).2.2.2.1,af,(r i).2.2.2.2.2)=_;rw[q2]
       ·rw[fN _ _ e,fN _ _ e,fN _ _ e]
      rw[hup]at h;have h:=h.dT b X (eA X u.c (gm r i ((i:Int),f.cr,0,f.nx,af,mc (r i))) t) s1 s2 (cj u.lv).2;have hpi:fo {u with lv:=(cj u.lv).2,fl:=jK u.fl i (some {f with si:=af})} i=0:=by
       unfold fo;rw[←qq hh hi (p:=0) (by decide),zV _ _ (by decide),aw (by simp)];rw[show({u with lv:=qK u.lv (i:Int) 0,fl:=jK u.fl i (some {f with si:=af})}:Qm).fl i=_ from co _ _ _];exact aF e3
      have hq2:=Cb (u':={u with lv:=(cj u.lv).2,fl:=jK u.fl i (some {f with si:=af})}) hq hf (co _ _ _) (λj e=>ec _ _ e) (λj e=>kv (ec _ _ e) (by rw[←qq hh hi (p:=0) (by decide)];exact oE u.lv 0 (by omega))) ((i:Int),f.cr,0,f.nx,af,mc (r i)) (by rw[hpi]);have hs2:fP {u with lv:=(cj u.lv).2,fl:=jK u.fl i (some {f with si:=af})} i=f.sg:=by
       unfold fP;rw[show({u with lv:=(cj u.lv).2,fl:=jK u.fl i (some {f with si:=af})}:Qm).fl i=_ from co _ _ _]
      have h:=h.A8 r (fP u) hi8;rw[q3]at h;have h:=h.KX r (gm r i ((i:Int),f.cr,0,f.nx,af,mc (r i))) (fP u) (fP {u with lv:=(cj u.lv).2,fl:=jK u.fl i (some {f with si:=af})}) hi8 (λj e=>fN _ _ e) (λj e=>xH u i _ _ _ _ e) (tk:=by rw[hs2,da];infer_instance);have hmu:=mH hA (some {f with si:=af}) u.ks;exact next () {u with lv:=(cj u.lv).2,fl:=jK u.fl i (some {f with si:=af})} w ⟨hA.yA e3 hn,k,by omega,by rw[e3];exact hR⟩ (h.gk b X {u with lv:=(cj u.lv).2,fl:=jK u.fl i (some {f with si:=af})} _ t hq2).aK hmu
     have c3:(mc (r i)).len≠0:=by
      have c3:¬(((mc (r i)).len:Nat):Int)=0:=(by simpa using c3);omega
     have e3:f.sg≠[]:=λe=>by rw[e]at hsl;exact c3 (by simpa using hsl)
     cases hss:f.sg with
     |nil=>exact absurd hss e3
     |cons s0 ss=>
     rw[hss]at hR;simp only at hR;have q3':=q3;rw[hss]at q3';refine ac (aj h (FK X u.c r t s1 s2 hi8) ?_);have h:=h.A8 r (fP u) hi8;rw[q3']at h;refine bR (rP (r i) s0 ss) h λx w h=>?_;obtain⟨hx,h⟩:=h.aP;rw[hx];have e5:(if uZ s0>(r i).2.2.2.1 then uZ s0 else(r i).2.2.2.1)=cC f:=by
      have:(r i).2.2.2.1=f.nx:=(by rw[q2]);rw[this];unfold cC;rw[hss]
     rw[e5];refine ae (λc4=>?_) λc4=>?_
     ·have c4:cC f>af:=(by simpa using c4);rw[aF c4]at hR;obtain⟨hOk,hnin,hlt⟩:=hA.wait e3;have h:=h.KX r r (fP u) (fP u) hi8 (λ_ _=>rfl) (λ_ _=>rfl) (tk:=by rw[q3'];infer_instance);have h:=h.dT b X (eA X u.c r t) s1 s2 u.lv;refine aq (vV b X u.c r t u.lv hu.lv i hi8 3 (by decide)) h λ_ w h=>?_;rw[qq hh hi (by decide)]at h;have hpi:fo {u with lv:=(cj u.lv).2,ks:=lZ u.ks (cC f,(i:Int))} i=3:=by
       unfold fo;rw[←qq hh hi (p:=3) (by decide),zV _ _ (by decide),aw (by simp)];rw[show({u with lv:=qK u.lv (i:Int) 3,ks:=lZ u.ks (cC f,(i:Int))}:Qm).fl i=some f from hf];exact aw e3
      have hq2:=Cb (u':={u with lv:=(cj u.lv).2,ks:=lZ u.ks (cC f,(i:Int))}) hq hf hf (λ_ _=>rfl) (λj e=>kv rfl (by rw[←qq hh hi (p:=3) (by decide)];exact oE u.lv 3 (by omega))) (xp (r i) 3) (by rw[hpi];show((r i).1,(r i).2.1,3,(r i).2.2.2.1,(r i).2.2.2.2.1,mc (r i))=_;rw[q2]);rw[←OO r i 3 (fP u),show fP u=fP {u with lv:=(cj u.lv).2,ks:=lZ u.ks (cC f,(i:Int))}from rfl]at h;have hmu:=mH hA (some f) (lZ u.ks (cC f,(i:Int)));rw[DV hf]at hmu;exact next () {u with lv:=(cj u.lv).2,ks:=lZ u.ks (cC f,(i:Int))} w ⟨hOk,k,by omega,hR⟩ (h.gk b X {u with lv:=(cj u.lv).2,ks:=lZ u.ks (cC f,(i:Int))} (gm r i (xp (r i) 3)) t hq2).aK hmu
     have c4:¬cC f>af:=(by simpa using c4);rw[aw c4]at hR;have hlen:=hu.len hf;have hsln:f.sg.length=ss.length+1:=(by rw[hss];rfl);have hUr:=Cr hr i;obtain⟨_,hok2⟩:=hF.sg s0 (by rw[hss];simp);have hln:=hok2.ln;have hL:=Cq hUr hu.cf.r;have hDl:=oU (n:=lI s0) (by omega) hL;have hcap:=pg (s:=mc (r i)) (K:=KS) (xs:=s0::ss) h;refine ac (aj h (sF X u.c r t s1 s2 hi8) (bT (s:=mc (r i)) h (by decide) (by simp) (eE h (mc (r i)) 0 (y:=s0) rfl rfl ?_)));refine aD h λn47 w h=>aA h (by rfl) λw h=>ac (aj h (sF X u.c r t s1 s2 hi8) ?_);refine wD (s:=mc (r i)) h 1 (mc (r i)).len (mc (r i)).cap rfl rfl rfl rfl (by omega) (by rw[hsl,hss];exact eM _) (by omega) (by omega) λs50 _ _ h=>?_;have ht:((s0::ss).take (mc (r i)).len).drop 1=ss:=(by rw[kF (by rw[hsl,hss];exact eM _)];rfl);rw[ht]at h;have h:=h.nil KS;refine dF (K:=KS) (s:=⟨none,0,0⟩) (x:=s50) (xs:=[]) (ys:=ss) h rfl (by simp only[iE];omega) λs51 w _ h=>?_;have h:=h.eD (s:=s51) (K:=KS) (ys:=ss) rfl;obtain⟨r1,hr1⟩:∃r1,r1=gm r i ((r i).1,(r i).2.1,(r i).2.2.1,(r i).2.2.2.1,(r i).2.2.2.2.1,s51):=⟨_,rfl⟩;refine ac (aB h b (eA X u.c r1 t++.sl s1::aX s2::mw X) rfl (jd (by show 1+9+i*6+5+1≤140;omega)) (by rw[hr1];exact OB X u.c r t s1 s2 hi8 s51) λw h=>?_);have hr1i:r1 i=((i:Int),f.cr,fo u i,f.nx,f.si,s51):=(by rw[hr1,da,q2]);have hcw:i64.wrap (f.cr-lI s0)=f.cr-lI s0:=fu;have e11:(r1 i).2.1=f.cr:=(by rw[hr1i]);refine aM h λw h=>ac (aj h rfl (aj h (DK X u.c r1 t s1 s2 hi8) (ac ?_)));rw[e11];rw[show i64.wrap (f.cr-s0.2.2.1)=f.cr-lI s0 from hcw];obtain⟨r2,hr2⟩:∃r2,r2=gm r1 i ((r1 i).1,f.cr-lI s0,(r1 i).2.2.1,(r1 i).2.2.2.1,(r1 i).2.2.2.2.1,(r1 i).2.2.2.2.2):=⟨_,rfl⟩;refine aB h b (eA X u.c r2 t++.sl s1::aX s2::mw X) rfl (jd (by show 1+9+i*6+1+1≤140;omega)) (by rw[hr2];exact HM X u.c r1 t s1 s2 hi8 _) λw h=>?_;have hr2i:r2 i=((i:Int),f.cr-lI s0,fo u i,f.nx,f.si,s51):=(by rw[hr2,da,hr1i]);refine aM h λw h=>aj h rfl (ac (aj h rfl (bR (v7 s rates i) h λx w h=>?_)));obtain⟨hx,h⟩:=h.aP;rw[hx];refine aN h rfl (aN h rfl (aq (Kv _ (cR u.c) hUr hu.cf.r) h λx w h=>?_));obtain⟨hx,h⟩:=h.aP;rw[hx];refine aN h rfl (aq (uK (lI s0) _ (by omega) hL) h λx w h=>?_);obtain⟨hx,h⟩:=h.aP;rw[hx];refine aq (fL af _ hn hDl) h λx w h=>?_;obtain⟨hx,h⟩:=h.aP;rw[hx];obtain⟨r3,hr3⟩:∃r3,r3=gm r2 i ((r2 i).1,(r2 i).2.1,(r2 i).2.2.1,bH af (dZ (lI s0) (gq (gg rates i) (cR u.c))),(r2 i).2.2.2.2.1,(r2 i).2.2.2.2.2):=⟨_,rfl⟩;refine ac (aB h b (eA X u.c r3 t++.sl s1::aX s2::mw X) rfl (jd (by show 1+9+i*6+3+1≤140;omega)) (by rw[hr3];exact Wl X u.c r2 t s1 s2 hi8 _) λw h=>?_);have hr3e:r3=gm r i ((i:Int),f.cr-lI s0,fo u i,bH af (dZ (lI s0) (gq (gg rates i) (cR u.c))),f.si,s51):=by
      funext q
      by_cases e:q=i
      ·rw[e,da,hr3,da,hr2i]
      ·rw[fN _ _ e,hr3,fN _ _ e,hr2,fN _ _ e,hr1,fN _ _ e]
     rw[hr3e]at h;have h:=h.dT b X (eA X u.c (gm r i ((i:Int),f.cr-lI s0,fo u i,bH af (dZ (lI s0) (gq (gg rates i) (cR u.c))),f.si,s51)) t) s1 s2 u.lv;refine ay (b:=n47) (x:=s0) h rfl (aA h (by rfl) λw h=>ay (b:=n1) (x:=s0) h rfl ?_);have hpi:fo (dP u i f s0 af (gg rates i)) i=fo u i:=by
      have h1:=oD.2 hA.inl;unfold fo;rw[aF h1];exact(aF h1).symm
     have hq2:=Cb (u':=dP u i f s0 af (gg rates i)) hq hf (co _ _ _) (λj e=>ec _ _ e) (λj e=>kv (ec _ _ e) rfl) ((i:Int),f.cr-lI s0,fo u i,bH af (dZ (lI s0) (gq (gg rates i) (cR u.c))),f.si,s51) (by rw[hpi]);have hs2:fP (dP u i f s0 af (gg rates i)) i=ss:=by
      unfold fP;rw[show(dP u i f s0 af (gg rates i)).fl i=_ from co _ _ _];show f.sg.tail=ss;rw[hss];rfl
     have h:=h.KX r (gm r i ((i:Int),f.cr-lI s0,fo u i,bH af (dZ (lI s0) (gq (gg rates i) (cR u.c))),f.si,s51)) (fP u) (fP (dP u i f s0 af (gg rates i))) hi8 (λj e=>fN _ _ e) (λj e=>xH u i _ _ _ _ e) (tk:=by rw[hs2,da];infer_instance);rw[←hR];exact au.aH rfl (h.gk b X (dP u i f s0 af (gg rates i)) _ t hq2).aK
    ·refine ac (aj h (sF X u.c r t s1 s2 hi8) ?_);have hs2l:=(h.rd (s:=s2)).2;refine ae (λc2=>?_) λc2=>?_
     ·simp only[ej,sy]at c2;obtain⟨c2,c3⟩:=c2;have c2:(mc (r i)).len=0:=by have c2:(((mc (r i)).len:Nat):Int)=0:=c2;omega
      have e3:f.sg=[]:=nX (by omega);refine ac (aj (x:=s2) h rfl ?_);refine⟨?_,(h.dT b X (eA X u.c r t) s1 s2 u.lv).aK⟩;show decide (((s2.len:Nat):Int)>0)=true↔_;rw[j_,hs2l];constructor
      ·intro x;exact⟨e3,c3,λe=>by rw[e]at x;simp at x⟩
      ·rintro⟨_,_,x⟩;have:u.lv.2.length≠0:=λe=>x (nX e);omega
     ·refine⟨?_,(h.dT b X (eA X u.c r t) s1 s2 u.lv).aK⟩;refine⟨λe=>(by cases e),λ⟨e1,e2,_⟩=>?_⟩;rw[e1]at hsl;have:(mc (r i)).len=0:=by simpa using hsl
      rw[e2,this]at c2;cases c2
  ·obtain⟨r,t,hq,h⟩:=h.cN b X v;refine aq (qd b X v hv r t hq) h λx w h=>?_;obtain⟨hx,h⟩:=h.aP;rw[hx];have h:au w0 S R w (ah n1 zS^aZ s KU rates^cN b X v):=(h.gk b X v r t hq).aK;refine fV (λ(_:Int) (u:Qm)=>ah n1 zS^aZ s KU rates^cN b X u) (λ(y:Int) u=>(iM u∧mW u af=mW v af)∧y=lp u) (λ_ u=>u.ks.length) v h ⟨⟨hv,rfl⟩,rfl⟩ ?_;rintro K (y:Int) u w ⟨⟨hu,hd⟩,hy⟩ h next
   rw[hy];refine aS h (λ_=>ah n1 zS^aZ s KU rates^cN b X u) (λ_=>∃k l,u.ks=k::l∧k.1≤af) (λ_ w hx h=>?_) ?_
   ·obtain⟨k,l,hk,hkn⟩:=hx;obtain⟨i,f,hf,hs,hni,he⟩:=(hu.ks k).1 (by rw[hk];simp);have hi8:=(hu.fl i f hf).1;have hk2:k.2=(i:Int):=by rw[he]
    have hfi:lp u=(i:Int):=(by unfold lp;rw[hk];exact hk2);obtain⟨r,t,hq,h⟩:=h.cN b X u;obtain⟨q1,q2,q3⟩:=hq.some hi8 hf;rw[hfi];refine aq (vV b X u.c r t u.lv hu.lv i hi8 2 (by decide)) h λ_ w h=>?_;have hpo:qK u.lv (i:Int) 2=(nn u k l).lv:=by
     unfold qK dI nn;unfold nS at hni;rw[dX]at hni;have g:∀L:List Int,(i:Int)∉L→L.filter (λx=>decide (x≠(i:Int)))=L:=λL hL=>by
      rw[Ao];intro x hx;have:x≠(i:Int):=λe=>hL (e▸hx);simpa using this
     rw[aF rfl,g _ (λe=>hni (.inl e)),g _ (λe=>hni (.inr e)),hk2]
    rw[hpo]at h;have hpi:fo (nn u k l) i=2:=by
     unfold fo;rw[←hpo,uH];rfl
    have hq2:=Cb (u':=nn u k l) hq hf hf (λ_ _=>rfl) (λj e=>kv rfl (by rw[←hpo];exact oE u.lv 2 (by omega))) (xp (r i) 2) (by rw[hpi];show((r i).1,(r i).2.1,2,(r i).2.2.2.1,(r i).2.2.2.2.1,mc (r i))=_;rw[q2]);rw[←OO r i 2 (fP u),show fP u=fP (nn u k l)from rfl]at h;have hok:=QS hu hk;refine aq (qd b X (nn u k l) hok (gm r i (xp (r i) 2)) t hq2) h λx w h=>?_;obtain⟨hx,h⟩:=h.aP;rw[hx];exact next (lp (nn u k l)) (nn u k l) w ⟨⟨hok,by rw[Mw hk hkn,hd]⟩,rfl⟩ (h.gk b X (nn u k l) (gm r i (xp (r i) 2)) t hq2).aK (by rw[hk];simp)
   ·have stop:∀{w:World},(∀k∈u.ks,¬k.1≤af)→au w0 S R w (ah n1 zS^aZ s KU rates^cN b X u)→True∧au w0 S R w (ah n1 zS^aZ s KU rates^cN b X (mW v af)):=λ{w} hno h=>by
     rw[←hd,Mv hno];exact⟨trivial,h⟩
    cases hk:u.ks with
    |nil=>
     have e:lp u=-1:=(by unfold lp;rw[hk]);rw[e];refine ae (λc=>(by cases c)) λ_=>stop (λk hk2=>by rw[hk]at hk2;cases hk2) h
    |cons k l=>
     obtain⟨i,f,hf,hs,hni,he⟩:=(hu.ks k).1 (by rw[hk];simp);have hi8:=(hu.fl i f hf).1;have hk2:k.2=(i:Int):=by rw[he]
     have hk1:k.1=cC f:=(by rw[he]);have hfi:lp u=(i:Int):=(by unfold lp;rw[hk];exact hk2);rw[hfi];refine ae (λ_=>?_) λc=>?_
     ·obtain⟨r,t,hq,h⟩:=h.cN b X u;obtain⟨q1,q2,q3⟩:=hq.some hi8 hf;obtain⟨s1,s2,h⟩:=h.kq b X (eA X u.c r t) u.lv;refine ac ⟨by omega,?_⟩;rw[eW];refine aj h (FK X u.c r t s1 s2 hi8) ?_;cases hss:f.sg with
      |nil=>exact absurd hss hs
      |cons a1 l1=>
      rw[hss]at q3;have h:=h.A8 r (fP u) hi8;rw[q3]at h;refine bR (rP (r i) a1 l1) h λx w h=>?_;obtain⟨hx,h⟩:=h.aP;rw[hx];have h:=h.KX r r (fP u) (fP u) hi8 (λ_ _=>rfl) (λ_ _=>rfl) (tk:=by rw[q3];infer_instance);have h:=h.dT b X (eA X u.c r t) s1 s2 u.lv;have h:au w0 S R w (ah n1 zS^aZ s KU rates^cN b X u):=(h.gk b X u r t hq).aK;have e5:(if uZ a1>(r i).2.2.2.1 then uZ a1 else(r i).2.2.2.1)=k.1:=by
       have:(r i).2.2.2.1=f.nx:=(by rw[q2]);rw[this,hk1];unfold cC;rw[hss]
      rw[e5];refine ae (λc=>⟨⟨k,l,rfl,cS⟩,h⟩) λc=>?_;have c:¬k.1≤af:=cS;refine stop (λq hq2=>?_) h;rw[hk]at hq2;rcases dY.1 hq2 with rfl|hq2
      ·exact c
      ·have hsr:=hu.wH;rw[hk]at hsr;have:=(ra.1 hsr).1 q hq2;rw[o_]at this;omega
     ·exfalso;simp at c
end WU

namespace MqZ
open bK bp f_ Jn _root_.Go.X.Tree jE lM mV fh lJ mh F9 Ea yp A3 Pr Lb Ps Tq Lc Ss WU
theorem Ox(h:Rq u r t)(hf':u'.fl i=some f')(hfl:∀j,j≠i→u'.fl j=u.fl j)(hpl:∀j,j≠i→fo u' j=fo u j)(x:RF)(hx:x=((i:Int),f'.cr,fo u' i,f'.nx,f'.si,mc x)):Rq u' (gm r i x) (pM t i true):=⟨λq hq8=>by
  by_cases e:q=i
  ·rw[e,hf',wA];rfl
  ·rw[hfl q e,DY _ _ e];exact h.t q hq8,λq hq8=>by
  by_cases e:q=i
  ·rw[e,da];unfold yo;rw[hf'];exact hx
  ·rw[fN _ _ e];have:=h.r q hq8;unfold yo at this⊢;rw[hfl q e,hpl q e];exact this⟩
theorem WG(h:r i=x):gm r i x=r:=by
 funext j
 by_cases e:j=i
 ·rw[e,da,h]
 ·exact fN _ _ e
theorem O7(h:t i=x):pM t i x=t:=by
 funext j
 by_cases e:j=i
 ·rw[e,wA,h]
 ·exact DY _ _ e
theorem H0(r i x y):gm (gm r i x) i y=gm r i y:=by
 funext j
 by_cases e:j=i
 ·rw[e,da,da]
 ·rw[fN _ _ e,fN _ _ e,fN _ _ e]
def yv(b i n1:Nat)(sx:Sl)(R:Rs.T [.lf (.int .i64),.lf (.int .i64)]→WP):WP:=
 az (some ⟨b,1+9+i*6⟩) λq58=>
 st ⟨q58.b,q58.o+5⟩ [aX sx]<|
 az (some ⟨b,1+9+i*6⟩) λq59=>
 ld [.int .i64] ⟨q59.b,q59.o+2⟩ λ(x60:Int)=>
 ar (x60==(0:Int)) (
 az (some ⟨b,1+9+i*6⟩) λq61=>
 st ⟨q61.b,q61.o+2⟩ [aJ (1:Int)]<|
 az (some ⟨b,1+9+i*6⟩) λq62=>
 st ⟨q62.b,q62.o+4⟩ [aC (0:Int)]<|
 bQ<|
 az (some ⟨b,1⟩) λq63=>
 ld [.int .i64] ⟨n1,0⟩ λ(x64:Int)=>
 call Tryz.prog py [.lf (.ptr (some ⟨q63.b,q63.o+65⟩)),.lf (.int .i64 x64),.lf (.bool true)] [.lf (.int .i64)] λ(_:Int)=>
 R ((0:Int),(0:Int)))<|
 R ((0:Int),(0:Int))
theorem Ys{lv:LV}{i:Int}:bY (lv.1++[i],lv.2) i=1:=by unfold bY;simp
theorem G0(lv){i j:Int}(h:j≠i):bY (lv.1++[i],lv.2) j=bY lv j:=by unfold bY;simp[h]
theorem Pf{w0 w:World}{S0 R0:Nat→Prop}{G:SP}{R:Rs.T [.lf (.int .i64),.lf (.int .i64)]→WP}{b n1:Nat}{X:Cx}{u:Qm}(hu:iM u){i:Nat}(hi8:i<8){af:Int}{r:Nat→RF}{t:Nat→Bool}(hq:Rq u r t){sx s1 s2:Sl}{x:RF}{g:Fl}{sd:Sg}(hsd:sK sd=(i:Int))
  (hx:x=((i:Int),g.cr,fo u i,g.nx,g.si,mc x)) (hg:(if fo u i=0 then{g with si:=0}else g)=fO u i af)
  (h:au w0 S0 R0 w (ah n1 (Ks.mk KS sd)^ah b (eA X u.c (gm r i x) (pM t i true)++.sl s1::aX s2::mw X)^aQ s1 KI u.lv.1^aQ s2 KI u.lv.2^aQ sx KS (g.sg++[sd])^eB (tI (rC r (fP u)) i) 8^G))
  (k:∀w',au w0 S0 R0 w' (cN b X (kS (eS u i af) i sd)^G)→R (0,0) w'):yv b i n1 sx R w:=by
 unfold yv;have hl:=hu.lv.GC;have hwg:(fO u i af).sg=g.sg:=by rw[←hg];split<;>rfl
 have e2:∀y:Sl,(gm r i x i).1=(i:Int):=λ_=>by rw[da,hx]
 have hX:∀y:RF,gm (gm r i x) i y=gm r i y:=λy=>H0 r i x y;refine ac ?_;refine aB h b (eA X u.c (gm r i (x.1,x.2.1,x.2.2.1,x.2.2.2.1,x.2.2.2.2.1,sx)) (pM t i true)++.sl s1::aX s2::mw X) rfl (jd (by show 1+9+i*6+5+1≤140;omega)) (by rw[OB X u.c (gm r i x) (pM t i true) s1 s2 hi8 sx,hX,da]) λw h=>?_;obtain⟨x2,hx2⟩:∃x2:RF,x2=((i:Int),g.cr,fo u i,g.nx,g.si,sx):=⟨_,rfl⟩;rw[show(x.1,x.2.1,x.2.2.1,x.2.2.2.1,x.2.2.2.2.1,sx)=x2 by rw[hx2,hx]]at h;refine ac (aj h (DL X u.c (gm r i x2) (pM t i true) s1 s2 hi8) ?_);have e3:(gm r i x2 i).2.2.1=fo u i:=by rw[da,hx2]
 rw[e3];refine ae (λc=>?_) λc=>?_
 ·have hp:fo u i=0:=cS;have hni:=(zX.1 hp).1;rw[aF hp]at hg;refine ac (aB h b (eA X u.c (gm r i ((i:Int),g.cr,1,g.nx,g.si,sx)) (pM t i true)++.sl s1::aX s2::mw X) rfl (jd (by show 1+9+i*6+2+1≤140;omega)) (by rw[Oz X u.c (gm r i x2) (pM t i true) s1 s2 hi8 1,H0,da,hx2]) λw h=>?_);refine ac (aB h b (eA X u.c (gm r i ((i:Int),g.cr,1,g.nx,0,sx)) (pM t i true)++.sl s1::aX s2::mw X) rfl (jd (by show 1+9+i*6+4+1≤140;omega)) (by rw[OA X u.c (gm r i ((i:Int),g.cr,1,g.nx,g.si,sx)) (pM t i true) s1 s2 hi8 0,H0,da]) λw h=>?_);have h:=h.dT b X (eA X u.c (gm r i ((i:Int),g.cr,1,g.nx,0,sx)) (pM t i true)) s1 s2 u.lv;refine aM h λw h=>ac (aj (x:=(i:Int)) h (by rw[←hsd];rfl) ?_);refine aq (zL b X (eA X u.c (gm r i ((i:Int),g.cr,1,g.nx,0,sx)) (pM t i true)) (1+65) rfl u.lv (i:Int) true (by omega)) h λ_ w h=>?_;obtain⟨_,h⟩:=h.aP;have hw:kK u i=(u.lv.1++[(i:Int)],u.lv.2):=by
   unfold kK;rw[aw (by rw[hp];simp),G3 hi8 hni]
  rw[G3 hi8 hni]at h;have hpi:fo (kS (eS u i af) i sd) i=1:=by
   rw[lJ.add_eq];unfold fo;show(if bY (kK u i) (i:Int)≠0 then bY (kK u i) (i:Int)else _)=_;rw[hw,Ys];rfl
  have hq2:=Ox (u':=kS (eS u i af) i sd) hq (by rw[lJ.add_eq];exact co _ _ _) (λj e=>by rw[lJ.add_eq];exact ec _ _ e) (λj e=>by
   rw[lJ.add_eq];exact kv (ec _ _ e) (by show bY (kK u i) _=_;rw[hw];exact G0 u.lv (by omega))) ((i:Int),g.cr,1,g.nx,0,sx) (by rw[hpi,←hg])
  have hs2:fP (kS (eS u i af) i sd) i=g.sg++[sd]:=by
   unfold fP;rw[lJ.add_eq,hwg];rw[show({u with fl:=jK u.fl i (some {fO u i af with sg:=g.sg++[sd]}),lv:=kK u i,n:=u.n+1}:Qm).fl i=_ from co _ _ _]
  have h:=h.KX r (gm r i ((i:Int),g.cr,1,g.nx,0,sx)) (fP u) (fP (kS (eS u i af) i sd)) hi8 (λj e=>fN _ _ e) (λj e=>by rw[lJ.add_eq];exact xH u i _ _ _ _ e) (tk:=by rw[hs2,da];infer_instance);have hcl:(kS (eS u i af) i sd).c=u.c∧(kS (eS u i af) i sd).lv=(u.lv.1++[(i:Int)],u.lv.2):=by rw[lJ.add_eq];exact⟨rfl,hw⟩
  refine k w ?_;rw[←hcl.1,←hcl.2]at h;exact(h.gk b X (kS (eS u i af) i sd) _ _ hq2).aK
 ·have hp:fo u i≠0:=cS;rw[aw hp]at hg;have h:=h.dT b X (eA X u.c (gm r i x2) (pM t i true)) s1 s2 u.lv;have hw:kK u i=u.lv:=by unfold kK;rw[aF hp]
  have hpi:fo (kS (eS u i af) i sd) i=fo u i:=by
   rw[lJ.add_eq];unfold fo;show(if bY (kK u i) (i:Int)≠0 then bY (kK u i) (i:Int)else match jK u.fl i (some {fO u i af with sg:=(fO u i af).sg++[sd]}) i with|none=>0|some f=>if f.sg=[]then 0 else 3)=if bY u.lv (i:Int)≠0 then bY u.lv (i:Int)else match u.fl i with|none=>0|some f=>if f.sg=[]then 0 else 3
   rw[hw,co];by_cases hpl:bY u.lv (i:Int)≠0
   ·rw[aF hpl,aF hpl]
   ·rw[aw hpl,aw hpl];have hp2:fo u i=match u.fl i with|none=>0|some f=>if f.sg=[]then 0 else 3:=by
     unfold fo;rw[aw hpl]
     rfl
    simp only;rw[aw (by simp)];cases hf:u.fl i with
    |none=>rw[hf]at hp2;exact absurd hp2 hp
    |some f=>
     rw[hf]at hp2;simp only at hp2⊢;split at hp2
     ·exact absurd hp2 hp
     ·rename_i hne;rw[aw hne]
  have hq2:=Ox (u':=kS (eS u i af) i sd) hq (by rw[lJ.add_eq];exact co _ _ _) (λj e=>by rw[lJ.add_eq];exact ec _ _ e) (λj e=>by
   rw[lJ.add_eq];exact kv (ec _ _ e) (by show bY (kK u i) _=_;rw[hw])) x2 (by rw[hpi,←hg];exact hx2.trans (by rw[hx2]))
  have hs2:fP (kS (eS u i af) i sd) i=g.sg++[sd]:=by
   unfold fP;rw[lJ.add_eq,hwg];rw[show({u with fl:=jK u.fl i (some {fO u i af with sg:=g.sg++[sd]}),lv:=kK u i,n:=u.n+1}:Qm).fl i=_ from co _ _ _]
  have hsl:mc (gm r i x2 i)=sx:=by rw[da,hx2]
  have h:=h.KX r (gm r i x2) (fP u) (fP (kS (eS u i af) i sd)) hi8 (λj e=>fN _ _ e) (λj e=>by rw[lJ.add_eq];exact xH u i _ _ _ _ e) (tk:=by rw[hs2,hsl];infer_instance);have hcl:(kS (eS u i af) i sd).c=u.c∧(kS (eS u i af) i sd).lv=u.lv:=by rw[lJ.add_eq];exact⟨rfl,hw⟩
  refine k w ?_;rw[←hcl.1,←hcl.2]at h;exact(h.gk b X (kS (eS u i af) i sd) _ _ hq2).aK
end MqZ

namespace Lo
open bK bp f_ Jn _root_.Go.X.Tree jE lM mV fh lJ mh F9 Ea yp A3 Pr Lb Ps Tq Lc Ss WU MqZ
theorem Oi(b X v)(hv:iM v)(s)(af:Int)(hs:U (RR s)∧U (uZ s))(hn:U af):bx (T0 (some ⟨b,1⟩) s af) (cN b X v) (λr=>br (r=(fF v s af).1) (cN b X (fF v s af).2)):=
 bF λw0 S R h=>by
  refine aD h λn1 w h=>?_;have h:au w0 S R w (ah n1 (Ks.mk KS s)^cN b X v):=h;refine aS h (λ_=>ah n1 (Ks.mk KS s)^cN b X v) (λ_=>0≤sK s∧sK s≤7) (λ_ w hk h=>?_) ?_;rotate_left
  ·have bad:∀{w:World},¬(0≤sK s∧sK s≤7)→au w0 S R w (ah n1 (Ks.mk KS s)^cN b X v)→au w0 S R w (br (((0:Int),(8:Int))=(fF v s af).1) (cN b X (fF v s af).2)):=λ{w} c h=>by
    have e:fF v s af=((0,8),v):=(by unfold fF;rw[aF c]);rw[e];exact au.aH rfl h.aK
   refine aj h rfl (ae (λc=>?_) λc=>?_)
   ·have c:sK s<0:=bZ c;exact bad (by omega) h
   ·have c:¬sK s<0:=cd c;refine aj h rfl (ae (λc2=>?_) λc2=>?_)
    ·have c2:sK s≥8:=bZ c2;exact bad (by omega) h
    ·have c2:¬sK s≥8:=cd c2;exact⟨by omega,h⟩
  refine aS h (λ_=>ah n1 (Ks.mk KS s)^cN b X v) (λ_=>1≤lI s∧lI s≤65536) (λ_ w hln h=>?_) ?_;rotate_left
  ·have bad:∀{w:World},¬(1≤lI s∧lI s≤65536)→au w0 S R w (ah n1 (Ks.mk KS s)^cN b X v)→au w0 S R w (br (((0:Int),(1:Int))=(fF v s af).1) (cN b X (fF v s af).2)):=λ{w} c h=>by
    have e:fF v s af=((0,1),v):=(by unfold fF;rw[aw (λx=>x hk),aF c]);rw[e];exact au.aH rfl h.aK
   refine aj h rfl (ae (λc=>?_) λc=>?_)
   ·have c:lI s<1:=bZ c;exact bad (by omega) h
   ·have c:¬lI s<1:=cd c;refine aj h rfl (ae (λc2=>?_) λc2=>?_)
    ·have c2:lI s>65536:=bZ c2;exact bad (by omega) h
    ·have c2:¬lI s>65536:=cd c2;exact⟨by omega,h⟩
  refine aq (DI b X v hv af) h λ_ w h=>?_;obtain⟨u,hue⟩:∃u,u=bM v af:=⟨_,rfl⟩;have hu:iM u:=by rw[hue];exact hv.collect af
  have huc:u.c=v.c:=by rw[hue]
  rw[←hue]at h;have hen:fF v s af=if iQ u s af=0 then((0,0),kS (eS u (sK s).toNat af) (sK s).toNat (drawn v s af))else((iQ u s af,0),u):=by
   unfold fF;rw[aw (λx=>x hk),aw (λx=>x hln),hue]
  obtain⟨i,hi⟩:∃i:Nat,sK s=(i:Int):=⟨(sK s).toNat,by omega⟩;have hi8:i<8:=by omega
  have hit:(sK s).toNat=i:=by rw[hi,eW]
  rw[hit]at hen;have hs1:s.1=(i:Int):=hi;have hH:U (cH u.c):=by have:=hu.cf.h;unfold U;omega
  refine aM h λw h=>aj (x:=(i:Int)) h (by rw[←hs1];rfl) (ac ⟨by omega,ac ?_⟩);rw[eW];obtain⟨r,t,hq,h⟩:=h.cN b X u;obtain⟨s1,s2,h⟩:=h.kq b X (eA X u.c r t) u.lv;refine aj h rfl (aq (fL af (cH u.c) hn hH) h λx w h=>?_);obtain⟨hx,h⟩:=h.aP;rw[hx];have h:=h.dT b X (eA X u.c r t) s1 s2 u.lv;have h:au w0 S R w (ah n1 (Ks.mk KS s)^kq b X (eA X u.c r t) u.lv^eB (rC r (fP u)) 8):=h.aK;refine aS h (λ_=>ah n1 (Ks.mk KS s)^kq b X (eA X u.c r t) u.lv^eB (rC r (fP u)) 8) (λ_=>iQ u s af=0) (λ_ w hf0 h=>?_) ?_;rotate_left
  ·have out:∀{w:World} (x:Int),x≠0→iQ u s af=x→au w0 S R w (ah n1 (Ks.mk KS s)^kq b X (eA X u.c r t) u.lv^eB (rC r (fP u)) 8^bg)→au w0 S R w (br ((x,(0:Int))=(fF v s af).1) (cN b X (fF v s af).2)):=λ{w} x hx hfx h=>by
    rw[hen,aw (by rw[hfx];exact hx),hfx];exact au.aH rfl (h.gk b X u r t hq).aK
   obtain⟨s1,s2,h⟩:=h.kq b X (eA X u.c r t) u.lv;refine aM h λw h=>ac (aj h rfl ?_);have h:=h.dT b X (eA X u.c r t) s1 s2 u.lv;refine aq (Oo b X u hu r t hq) h λx w h=>?_;obtain⟨hx,h⟩:=h.aP;rw[hx];obtain⟨s1,s2,h⟩:=h.kq b X (eA X u.c r t) u.lv;refine aN h rfl (ae (λc=>?_) λc1=>?_)
   ·have c:u.n≥cL u.c:=bZ c;exact out 2 (by decide) (by unfold iQ;rw[aF c]) (h.dT b X (eA X u.c r t) s1 s2 u.lv).aK
   have c1:¬u.n≥cL u.c:=cd c1;refine aM h λw h=>ac (ac (aj h (sF X u.c r t s1 s2 hi8) (aj h rfl ?_)));have hsl:(mc (r i)).len=(fP u i).length:=by
    have h:=h.A8 r (fP u) hi8;exact(h.rd (s:=mc (r i))).2
   have hw:=hu.cf.w;have hex:(((mc (r i)).len:Nat):Int)≥cW u.c↔∃f,u.fl (sK s).toNat=some f∧(f.sg.length:Int)≥cW u.c:=by
    rw[hit,hsl];unfold fP;cases hf:u.fl i with
    |none=>exact⟨λx=>(by simp only[iE]at x;omega),λ⟨_,e,_⟩=>(by cases e)⟩
    |some f=>exact⟨λx=>⟨f,rfl,x⟩,λ⟨g,e,x⟩=>(by cases e;exact x)⟩
   refine ae (λc=>?_) λc2=>?_
   ·have c:(((mc (r i)).len:Nat):Int)≥cW u.c:=bZ c;exact out 3 (by decide) (by unfold iQ;rw[aw c1,aF (hex.1 c)]) (h.dT b X (eA X u.c r t) s1 s2 u.lv).aK
   have c2:¬(((mc (r i)).len:Nat):Int)≥cW u.c:=cd c2;have c2:=λx=>c2 (hex.2 x);refine aj h rfl (ae (λc=>?_) λc3=>?_)
   ·have c:uZ s>bH af (cH u.c):=bZ c;refine ac (aj h rfl (ae (λc4=>?_) λc4=>?_))
    ·exact out 4 (by decide) (by unfold iQ;rw[aw c1,aw c2,aF ⟨c,c4⟩]) (h.dT b X (eA X u.c r t) s1 s2 u.lv).aK
    ·exact⟨by unfold iQ;rw[aw c1,aw c2,aw (λx=>by rw[c4]at x;cases x.2)],(h.dT b X (eA X u.c r t) s1 s2 u.lv).aK⟩
   ·have c3:¬uZ s>bH af (cH u.c):=cd c3;exact⟨by unfold iQ;rw[aw c1,aw c2,aw (λx=>c3 x.1)],(h.dT b X (eA X u.c r t) s1 s2 u.lv).aK⟩
  obtain⟨sd,hsd⟩:∃sd,sd=drawn v s af:=⟨_,rfl⟩;have hsdk:sK sd=(i:Int):=by rw[hsd];exact hi
  rw[hen,aF hf0,←hsd];refine aj h rfl (aB h n1 (Ks.mk KS sd) rfl rfl (by rw[hsd,show drawn v s af=(sK s,RR s,lI s,(if bH af (cH u.c)<uZ s then bH af (cH u.c)else uZ s),sAg s) by rw[huc];rfl];rfl) λw h=>?_);refine aS h (λ_=>yj (λx:RF×Fl=>x.1=((i:Int),x.2.cr,fo u i,x.2.nx,x.2.si,mc x.1)∧(if fo u i=0 then{x.2 with si:=0}else x.2)=fO u i af) (λx=>ah n1 (Ks.mk KS sd)^kq b X (eA X u.c (gm r i x.1) (pM t i true)) u.lv^aQ (mc x.1) KS x.2.sg^eB (tI (rC r (fP u)) i) 8)) (λ_=>True) (λ_ w _ h=>?_) ?_
  ·obtain⟨⟨x,g⟩,⟨hx1,hg⟩,h⟩:=h.NB;dsimp only at hx1 hg h;have hgl:g.sg.length≤512:=by
    have:(fO u i af).sg=g.sg:=(by rw[←hg];split<;>rfl);rw[←this,AY];cases hf:u.fl i with
    |none=>simp
    |some f=>exact(hu.len hf).2
   obtain⟨s1,s2,h⟩:=h.kq b X (eA X u.c (gm r i x) (pM t i true)) u.lv;have esl:(gm r i x i).2.2.2.2.2=mc x:=by rw[da]
   refine aM h λw h=>ay (b:=n1) (x:=sd) h rfl (ac (aj h (sF X u.c (gm r i x) (pM t i true) s1 s2 hi8) ?_));rw[esl];have hck:=RP X u.c (gm r i x) (pM t i true) s1 s2 hi8;rw[esl]at hck;refine⟨?_,?_⟩
   ·have h:=h.nil KS;refine dF (K:=KS) (s:=⟨none,0,0⟩) (x:=mc x) (xs:=[]) (ys:=g.sg) h rfl (by simp only[iE];omega) λs55 w _ h=>?_;have h:=h.eD (s:=s55) (K:=KS) (ys:=g.sg) rfl;refine aO (b:=n1) h (aD h λn56 w h=>?_);refine aN h hck ?_;have h:=h.ct n56 KS [sd] rfl (by simp);refine dF (s:=s55) (x:=⟨some ⟨n56,0⟩,1,1⟩) (ys:=[sd]) h rfl (by simp only[gO];omega) λs57 w _ h=>?_;show yv b i n1 s57 (λx w'=>au w0 S R w' (br (x=((((0:Int),(0:Int)),kS (eS u i af) i sd):(Int×Int)×Qm).1) (cN b X ((((0:Int),(0:Int)),kS (eS u i af) i sd):(Int×Int)×Qm).2))) w;exact Pf (G:=bg) (sx:=s57) (s1:=s1) (s2:=s2) (x:=x) (g:=g) hu hi8 hq hsdk hx1 hg h.aK λw h=>au.aH rfl h.bq
   ·refine aD h λn66 w h=>?_;refine aN h hck ?_;have h:=h.nil KS;refine dF (K:=KS) (s:=⟨none,0,0⟩) (x:=mc x) (xs:=[]) (ys:=g.sg) h rfl (by simp only[iE];omega) λs67 w _ h=>?_;have h:=h.eD (s:=s67) (K:=KS) (ys:=g.sg) rfl;refine aO (b:=n1) h ?_;have h:=h.ct n66 KS [sd] rfl (by simp);refine dF (s:=s67) (x:=⟨some ⟨n66,0⟩,1,1⟩) (ys:=[sd]) h rfl (by simp only[gO];omega) λs68 w _ h=>?_;show yv b i n1 s68 (λx w'=>au w0 S R w' (br (x=((((0:Int),(0:Int)),kS (eS u i af) i sd):(Int×Int)×Qm).1) (cN b X ((((0:Int),(0:Int)),kS (eS u i af) i sd):(Int×Int)×Qm).2))) w;exact Pf (G:=bg) (sx:=s68) (s1:=s1) (s2:=s2) (x:=x) (g:=g) hu hi8 hq hsdk hx1 hg h.aK λw h=>au.aH rfl h.bq
  ·have hsd1:sd.1=(i:Int):=hsdk;have ldk:∀{w:World},Ks.un [.int .i64] (((Ks.mk KS sd).drop (⟨n1,0⟩:Pt).o).take 1)=some (i:Int):=λ{w}=>by rw[←hsd1];rfl
   obtain⟨s1,s2,h⟩:=h.kq b X (eA X u.c r t) u.lv;refine aM h λw h=>aj (x:=(i:Int)) h (by rw[←hsd1];rfl) (ac ⟨by omega,?_⟩);rw[eW];refine aj h (I1 X u.c r t s1 s2 hi8) ?_;cases hf:u.fl i with
   |none=>
    obtain⟨q1,q2,q3⟩:=hq.none hi8 hf;rw[q1];refine ae (λ_=>?_) λc=>(by cases c);refine aM h λw h=>aj (x:=(i:Int)) h (by rw[←hsd1];rfl) (ac ⟨by omega,?_⟩);rw[eW];refine aB h b (eA X u.c r (pM t i true)++.sl s1::aX s2::mw X) rfl (jd (by show 1+57+i*1+1≤140;omega)) (HN X u.c r t s1 s2 hi8 true) λw h=>?_;refine aM h λw h=>aj (x:=(i:Int)) h (by rw[←hsd1];rfl) (ac (aj h rfl (ac ?_)));refine aB h b (eA X u.c (gm r i ((i:Int),cF u.c,0,0,0,⟨none,0,0⟩)) (pM t i true)++.sl s1::aX s2::mw X) rfl (jd (by show 1+9+i*6+6≤140;omega)) (Oy X u.c r (pM t i true) s1 s2 hi8 ((i:Int),cF u.c,0,0,0,⟨none,0,0⟩)) λw h=>?_;have h:=h.dT b X (eA X u.c (gm r i ((i:Int),cF u.c,0,0,0,⟨none,0,0⟩)) (pM t i true)) s1 s2 u.lv;have h:=h.A8 r (fP u) hi8;have h:=h.nil KS;have hp:fo u i=0:=zX.2 ⟨λx=>(by
     obtain⟨f,hf2⟩:=hu.th i x;rw[hf]at hf2;cases hf2),λf hf2=>(by rw[hf]at hf2;cases hf2)⟩
    refine⟨trivial,(h.r_ (f:=λx:RF×Fl=>ah n1 (Ks.mk KS sd)^kq b X (eA X u.c (gm r i x.1) (pM t i true)) u.lv^aQ (mc x.1) KS x.2.sg^eB (tI (rC r (fP u)) i) 8) (((i:Int),cF u.c,0,0,0,⟨none,0,0⟩),⟨cF u.c,0,0,[]⟩) ⟨by rw[hp],?_⟩).bq⟩;rw[aF hp];unfold fO;rw[hf]
   |some f=>
    obtain⟨q1,q2,q3⟩:=hq.some hi8 hf;have hUsi:=(hu.fl i f hf).2.si;rw[q1];refine ae (λc=>(by cases c)) λ_=>?_;have e2:(r i).2.2.1=fo u i:=by rw[q2]
    have e4:(r i).2.2.2.2.1=f.si:=(by rw[q2]);have e1:(r i).2.1=f.cr:=(by rw[q2]);have hid:∀rq,idle u i rq af=(decide (fo u i=0)&&decide (bH f.si rq≤af)):=λrq=>by unfold idle;rw[hf]
    have h:=h.dT b X (eA X u.c r t) s1 s2 u.lv;refine aS h (λ_=>ah n1 (Ks.mk KS sd)^kq b X (eA X u.c r t) u.lv^eB (rC r (fP u)) 8) (λy:Bool=>y=idle u i 40000000 af) (λ(y:Bool) w hy h=>?_) ?_
    ·rw[hy];obtain⟨s1,s2,h⟩:=h.kq b X (eA X u.c r t) u.lv;have h:=h.A8 r (fP u) hi8;rw[q3]at h;refine ae (λc=>?_) λc=>?_
     ·refine aM h λw h=>ac (ac (aj h (DK X u.c r t s1 s2 hi8) (aj h rfl (ac ?_))));rw[e1];refine aB h b (eA X u.c (gm r i ((i:Int),(if cQ u.c>f.cr then cQ u.c else f.cr),fo u i,f.nx,f.si,mc (r i))) t++.sl s1::aX s2::mw X) rfl (jd (by show 1+9+i*6+1+1≤140;omega)) (by
       have:=HM X u.c r t s1 s2 hi8 (if cQ u.c>f.cr then cQ u.c else f.cr);have e:((r i).1,(if cQ u.c>f.cr then cQ u.c else f.cr),(r i).2.2.1,(r i).2.2.2.1,(r i).2.2.2.2.1,(r i).2.2.2.2.2)=((i:Int),(if cQ u.c>f.cr then cQ u.c else f.cr),fo u i,f.nx,f.si,mc (r i)):=(by rw[q2]);rw[e]at this;exact this) λw h=>?_
      have h:=h.dT b X (eA X u.c (gm r i ((i:Int),(if cQ u.c>f.cr then cQ u.c else f.cr),fo u i,f.nx,f.si,mc (r i))) t) s1 s2 u.lv;rw[show eA X u.c (gm r i ((i:Int),(if cQ u.c>f.cr then cQ u.c else f.cr),fo u i,f.nx,f.si,mc (r i))) t=eA X u.c (gm r i ((i:Int),(if cQ u.c>f.cr then cQ u.c else f.cr),fo u i,f.nx,f.si,mc (r i))) (pM t i true) by rw[O7 q1]]at h;refine⟨trivial,(h.r_ (f:=λx:RF×Fl=>ah n1 (Ks.mk KS sd)^kq b X (eA X u.c (gm r i x.1) (pM t i true)) u.lv^aQ (mc x.1) KS x.2.sg^eB (tI (rC r (fP u)) i) 8) (((i:Int),(if cQ u.c>f.cr then cQ u.c else f.cr),fo u i,f.nx,f.si,mc (r i)),{f with cr:=if cQ u.c>f.cr then cQ u.c else f.cr}) ⟨rfl,?_⟩).bq⟩;have hp:fo u i=0:=by
       rw[hid,ej,j_]at c;exact c.1
      rw[aF hp];unfold fO;rw[hf];simp[hp,c]
     ·have h:=h.dT b X (eA X u.c r t) s1 s2 u.lv;have er:eA X u.c r t=eA X u.c (gm r i (r i)) (pM t i true):=(by rw[WG rfl,O7 q1]);rw[er]at h;refine⟨trivial,(h.r_ (f:=λx:RF×Fl=>ah n1 (Ks.mk KS sd)^kq b X (eA X u.c (gm r i x.1) (pM t i true)) u.lv^aQ (mc x.1) KS x.2.sg^eB (tI (rC r (fP u)) i) 8) (r i,f) ⟨q2,?_⟩).bq⟩;unfold fO;rw[hf];by_cases hp:fo u i=0
      ·simp[hp,c]
      ·simp[hp]
    ·obtain⟨s1,s2,h⟩:=h.kq b X (eA X u.c r t) u.lv;refine ac (aj h (DL X u.c r t s1 s2 hi8) ?_);rw[e2];refine ae (λc=>?_) λc=>?_
     ·have hp:fo u i=0:=cS;refine ac (aj h (Ow X u.c r t s1 s2 hi8) ?_);rw[e4];refine aq (fL f.si 40000000 hUsi (by unfold U;omega)) h λx w h=>?_;obtain⟨hx,h⟩:=h.aP;rw[hx];refine⟨?_,(h.dT b X (eA X u.c r t) s1 s2 u.lv).aK⟩;rw[hid];simp[hp]
     ·have hp:¬fo u i=0:=cS;refine⟨?_,(h.dT b X (eA X u.c r t) s1 s2 u.lv).aK⟩;rw[hid];simp[hp]
end Lo

namespace Tu
open bK bp fh lJ mh fe xQ A1 yM qA A2 Cm D2 f_ Jn Lc Ss Lo Xo
open eC (Sk cm cv eG iz iU c_ bu dW)
open pY (nh qm)
open nz (pw)
open Bx (Jr gN gF gS gA)
open Ld (mn)
open WY (qW yE)
open Xq (AA Ck wC)
def DM(p:bO)(x:Option Sk):SP:=match x with
 |none=>br (p=none) bg
 |some f=>yj (λy:Nat×Int=>p=some ⟨y.1,0⟩∧qW y.2 f.cap f) (λy=>mn y.1 y.2 f.cap f)
instance(p:bO)(x:Option Sk):nt (DM p x):=by unfold DM;split<;>infer_instance
abbrev RQ(p:Nat→bO)(fl:Nat→Option Sk):Nat→SP:=λj=>DM (p j) (fl j)
abbrev qB(p:Nat→bO)(fl:Nat→Option Sk):SP:=eB (RQ p fl) 8
abbrev tW(p:Nat→bO)(fl:Nat→Option Sk)(i:Nat):SP:=eB (tI (RQ p fl) i) 8
def eY(b:Nat)(v:Mc):SP:=yj (λx:(Nat→Ct)×(Nat→bO)=>KL x.1 v.l∧v.q.c=v.c) (λx=>cN b ⟨v.af,x.1,x.2⟩ v.q^qB x.2 v.so)
instance(b:Nat)(v:Mc):nt (eY b v):=by unfold eY;infer_instance
section
variable {w0 w:World} {S0 R0:Nat→Prop} {F G:SP}
theorem _root_.Go.X.au.eY(h:au w0 S0 R0 w F)(b)[tk:ou Tu.eY b F v G]:∃(k:Nat→Ct) (p:Nat→bO),(KL k v.l∧v.q.c=v.c)∧au w0 S0 R0 w (cN b ⟨v.af,k,p⟩ v.q^qB p v.so^G):=by
 obtain⟨x,hx,h⟩:=(h.le tk.le).vQ;exact⟨x.1,x.2,hx,h.aK⟩
theorem _root_.Go.X.au.lj(h:au w0 S0 R0 w F)(b k p v)(hk:KL k v.l∧v.q.c=v.c)[tk:Take (cN b ⟨v.af,k,p⟩ v.q^qB p v.so) F G]:au w0 S0 R0 w (Tu.eY b v^G):=
 au.r_ (f:=λx:(Nat→Ct)×(Nat→bO)=>cN b ⟨v.af,x.1,x.2⟩ v.q^qB x.2 v.so) (φ:=λx=>KL x.1 v.l∧v.q.c=v.c) h (k,p) hk
theorem _root_.Go.X.au.IU(h:au w0 S0 R0 w F)(p fl)(hi:i<8)(hf:fl i=some f)[tk:Take (qB p fl) F G]:∃(a:Nat) (m0:Int),(p i=some ⟨a,0⟩∧qW m0 f.cap f)∧au w0 S0 R0 w (mn a m0 f.cap f^tW p fl i^G):=by
 have h:au w0 S0 R0 w ((DM (p i) (fl i)^tW p fl i)^G):=(h.le tk.le).le (ba (oW _ hi) Le.rfl);have h:=h.le (bS _ _ _);rw[hf]at h;obtain⟨y,hy,h⟩:=au.vQ (φ:=λy:Nat×Int=>p i=some ⟨y.1,0⟩∧qW y.2 f.cap f) (f:=λy=>mn y.1 y.2 f.cap f) h;exact⟨y.1,y.2,hy,h⟩
theorem _root_.Go.X.au.Rn(h:au w0 S0 R0 w F)(p fl)(hi:i<8)(hf:fl i=none)[tk:Take (qB p fl) F G]:p i=none∧au w0 S0 R0 w (tW p fl i^G):=by
 have h:au w0 S0 R0 w ((DM (p i) (fl i)^tW p fl i)^G):=(h.le tk.le).le (ba (oW _ hi) Le.rfl);have h:=h.le (bS _ _ _);rw[hf]at h;obtain⟨hp,h⟩:=au.aP (p:=p i=none) (A:=bg) h;exact⟨hp,h.drop⟩
theorem Ij(p q fl gl i)(hp:∀j,j≠i→q j=p j)(hf:∀j,j≠i→gl j=fl j):tW q gl i=tW p fl i:=iw 8 λj _=>by
 unfold tI;split
 ·rfl
 ·rename_i e;show DM _ _=DM _ _;rw[hp j e,hf j e]
theorem _root_.Go.X.au.Q2(h:au w0 S0 R0 w F)(p fl)(hi:i<8)(q gl a)(m0:Int)(f)(hp:∀j,j≠i→q j=p j)(hf:∀j,j≠i→gl j=fl j)(hq:q i=some ⟨a,0⟩)(hg:gl i=some f)(hr:qW m0 f.cap f)[tk:Take (mn a m0 f.cap f^tW p fl i) F G]:au w0 S0 R0 w (qB q gl^G):=by
 have h:=(h.le tk.le).le (bS _ _ _);have h:au w0 S0 R0 w (DM (q i) (gl i)^tW p fl i^G):=by
  rw[hg];exact h.r_ (φ:=λy:Nat×Int=>q i=some ⟨y.1,0⟩∧qW y.2 f.cap f) (f:=λy=>mn y.1 y.2 f.cap f) (a,m0) ⟨hq,hr⟩
 rw[←Ij p q fl gl i hp hf]at h;exact(h.le (dh _ _ _)).le (ba (rR (RQ q gl) hi) Le.rfl)
theorem _root_.Go.X.au.aag(h:au w0 S0 R0 w F)(p fl)(hi:i<8)(q gl)(hp:∀j,j≠i→q j=p j)(hf:∀j,j≠i→gl j=fl j)(hq:q i=none)(hg:gl i=none)[tk:Take (tW p fl i) F G]:au w0 S0 R0 w (qB q gl^G):=by
 have h:=(h.le tk.le);have h:au w0 S0 R0 w (DM (q i) (gl i)^tW p fl i^G):=by
  rw[hg];exact au.je (p:=q i=none) (A:=bg) hq (h.le ((aG _).trans (aU _ _)))
 rw[←Ij p q fl gl i hp hf]at h;exact(h.le (dh _ _ _)).le (ba (rR (RQ q gl) hi) Le.rfl)
theorem aaj(h:au w0 S0 R0 w F)(p fl)(hi:i<8)[tk:Take (qB p fl) F G]:(p i).isNone=(fl i).isNone:=by
 cases hf:fl i with
 |none=>rw[(h.Rn p fl hi hf).1];rfl
 |some f=>obtain⟨a,m0,ha,_⟩:=h.IU p fl hi hf;rw[ha.1];rfl
variable {b:Nat} {X:Cx} {q:Qm}
theorem xP(h:au w0 S0 R0 w F)[tk:Take (cN b X q) F G]{K:Int→WP}(k:K X.af w):ld [.int .u64] ⟨b,0⟩ K w:=by
 obtain⟨r,t,hq,h⟩:=(h.le tk.le).cN b X q;obtain⟨s1,s2,h⟩:=h.kq b X (eA X q.c r t) q.lv;exact aj h rfl k
theorem O_(h:au w0 S0 R0 w F)[tk:Take (cN b X q) F G]{K:WP}(k:K w):cw ⟨b,0⟩ (Ks.mk [.int .u64] X.af) K w:=by
 obtain⟨r,t,hq,h⟩:=(h.le tk.le).cN b X q;obtain⟨s1,s2,h⟩:=h.kq b X (eA X q.c r t) q.lv;exact aN h rfl k
theorem WK(h:au w0 S0 R0 w F)[tk:Take (cN b X q) F G]{K:Cf→WP}(k:K q.c w):ld KC ⟨b,0+1⟩ K w:=by
 obtain⟨r,t,hq,h⟩:=(h.le tk.le).cN b X q;obtain⟨s1,s2,h⟩:=h.kq b X (eA X q.c r t) q.lv;exact aj (x:=q.c) h rfl k
theorem Pd(h:au w0 S0 R0 w F)[tk:Take (cN b X q) F G]{i:Nat}(hi:i<8){K:bO→WP}(k:K (X.p i) w):ld [.ptr] ⟨b,0+132+i*1⟩ K w:=by
 obtain⟨r,t,hq,h⟩:=(h.le tk.le).cN b X q;obtain⟨s1,s2,h⟩:=h.kq b X (eA X q.c r t) q.lv;exact aj h (Yt X q.c r t s1 s2 hi) k
theorem Tk(h:au w0 S0 R0 w F)[tk:Take (cN b X q) F G]{i:Nat}(hi:i<8)(x:bO){K:WP}(k:∀w',au w0 S0 R0 w' (cN b {X with p:=gY X.p i x} q^G)→K w'):st ⟨b,0+132+i*1⟩ [.ptr x] K w:=by
 obtain⟨r,t,hq,h⟩:=(h.le tk.le).cN b X q;obtain⟨s1,s2,h⟩:=h.kq b X (eA X q.c r t) q.lv;refine aB h b (mB {X with p:=gY X.p i x} q.c r t s1 s2) rfl (jd (by show 0+132+i*1+1≤140;omega)) (Yu X q.c r t s1 s2 hi x) λw h=>?_;have h:=h.dT b {X with p:=gY X.p i x} (eA {X with p:=gY X.p i x} q.c r t) s1 s2 q.lv;exact k w (h.gk b {X with p:=gY X.p i x} q r t hq).aK
end
theorem KJ(b ap a:Nat)(k:Int)(X:Cx)(hn:U X.af)(i:Nat)(x:Sk)(q:Qm)(l:Nat→Ct)(o:Ou)(m0:Int)(s0:yN k i ⟨x,q,l,o⟩)(hr:qW m0 x.cap x)(hk:KL X.k l)(hl:o.dr.length≤999∧o.ft.length≤999):
  bx (Z6 (some ⟨b,0⟩) (some ⟨ap,0⟩) (some ⟨a,0⟩)) (cN b X q^mn ap m0 x.cap x^fH a o)
   (λ_=>yj (λy:Nat→Ct=>KL y (pi i X.af ⟨x,q,l,o⟩).l∧qW m0 x.cap (pi i X.af ⟨x,q,l,o⟩).v) (λy=>cN b {X with k:=y} (pi i X.af ⟨x,q,l,o⟩).q^mn ap m0 x.cap (pi i X.af ⟨x,q,l,o⟩).v^fH a (pi i X.af ⟨x,q,l,o⟩).o)):=
 bF λw0 S R h=>by
  obtain⟨e,he⟩:∃e,e=pi i X.af ⟨x,q,l,o⟩:=⟨_,rfl⟩;rw[←he];obtain⟨c0,hc0⟩:∃c0,c0=x.cap:=⟨_,rfl⟩;rw[←hc0]at h hr⊢;have aK:∀{w:World} (s:Pm) (k1:Nat→Ct),s=e→KL k1 s.l→qW m0 c0 s.v→au w0 S R w (cN b {X with k:=k1} s.q^mn ap m0 c0 s.v^fH a s.o^bg)→au w0 S R w (yj (λy:Nat→Ct=>KL y e.l∧qW m0 c0 e.v) (λy=>cN b {X with k:=y} e.q^mn ap m0 c0 e.v^fH a e.o)):=by
   intro w s k1 hs h1 h2 h;rw[←hs];exact(h.r_ (f:=λy:Nat→Ct=>cN b {X with k:=y} s.q^mn ap m0 c0 s.v^fH a s.o) (φ:=λy=>KL y s.l∧qW m0 c0 s.v) k1 ⟨h1,h2⟩).bq
  have h:au w0 S R w0 (cN b {X with k:=X.k} q^mn ap m0 c0 x^fH a o^bg):=h.aK;refine fV (λ(_:Unit) (s:Pm×(Nat→Ct))=>cN b {X with k:=s.2} s.1.q^mn ap m0 c0 s.1.v^fH a s.1.o^bg) (λ_ s=>yN k i s.1∧s.1.o=o∧(KL s.2 s.1.l∧qW m0 c0 s.1.v)∧∃n,fresh s.1.v<n∧lY i X.af n s.1=e) (λ_ s=>fresh s.1.v) (⟨x,q,l,o⟩,X.k) h ⟨s0,rfl,⟨hk,hr⟩,_,xw _,he.symm⟩ ?_;rintro K (y:Unit) ⟨s,k1⟩ w ⟨hs,hso,⟨hk,hr⟩,n,hfn,hN⟩ h next
  dsimp only at hs hso hk hr hfn hN h;cases n with
  |zero=>omega
  |succ n=>
  unfold lY at hN;refine ac (xP (b:=b) (X:={X with k:=k1}) (q:=s.q) h ?_);refine aq (AA ap hs.v.i.ok (qm hs.v.i.pc) hr X.af hn) h λr w h=>?_;obtain⟨hr1,h⟩:=h.aP;rw[hr1];have hrE:=hr.emit X.af;refine aD h λn7 w h=>aA h (by rfl) λw h=>ae (λce=>?_) λce=>?_
  ·have ce:(cm s.v X.af).1.2≠0:=(by simpa using ce);rw[aF ce]at hN;exact aK {s with v:=(cm s.v X.af).2} k1 hN hk hrE h.aK
  ·have ce:(cm s.v X.af).1.2=0:=(by simpa using ce);rw[aw (λc=>c ce)]at hN;obtain⟨hok,hless⟩:=vn hs hn ce;have hw:=wE hs.v hn ce;have hgs:=yJ hs.v hn ce;have hgn:=hw.n;obtain⟨g,hg⟩:∃g,g=(cm s.v X.af).1.1:=⟨_,rfl⟩;obtain⟨v',hv'⟩:∃v',v'=(cm s.v X.af).2:=⟨_,rfl⟩;have hiv:=sb hs.v hn;have een:enter i X.af s=if(fF s.q g X.af).1.1=0 then(⟨v',(fF s.q g X.af).2,(gu s.l i 0).2,s.o⟩,0)
    else(⟨(cv v' g.2.2.1).2,(fF s.q g X.af).2,(cj (gu s.l i 0).2 s.o g (fF s.q g X.af).1.1).2,(cj (gu s.l i 0).2 s.o g (fF s.q g X.af).1.1).1⟩,1):=by
    rw[hg,hv'];rfl
   rw[←hg]at hw hgs hgn;rw[←hv']at hiv hw hrE;rw[←hg,←hv']at h;have hid:v'.id=(i:Int):=hw.Bk.trans hs.id;have hgk:sK g=(i:Int):=hw.id.trans hs.id;refine aM h λw h=>ay (b:=n7) (x:=g) h rfl (ac (ac (xP (b:=b) (X:={X with k:=k1}) (q:=s.q) h ?_)));refine aq (Oi b {X with k:=k1} s.q hs.q g X.af hgs hn) h λr w h=>?_;obtain⟨hr1,h⟩:=h.aP;rw[hr1];refine aM h λw h=>ac (ac (Ck (b:=ap) (m0:=m0) (c0:=c0) (v:=v') h ?_));rw[hid];refine aq (tj b {X with k:=k1} (fF s.q g X.af).2 (i:Int) 0) h λr w h=>?_;have hk2:=hk.note (i:Int) 0;obtain⟨k2,hke2⟩:∃k2,k2=nF k1 (i:Int) 0:=⟨_,rfl⟩;rw[←hke2]at hk2;have h:au w0 S R w (cN b {X with k:=k2} (fF s.q g X.af).2^mn ap m0 c0 v'^ah n7 (Ks.mk KS g)^fH a s.o^bg):=by rw[hke2];exact h.aK
   refine ae (λcf=>?_) λcf=>?_;rotate_left
   ·have cf:(fF s.q g X.af).1.1=0:=(by simpa using cf);rw[aF cf]at een;rw[een]at hN hok hless;rw[aF rfl]at hN;have hless:fresh v'<fresh s.v:=hless;exact next () (⟨v',(fF s.q g X.af).2,(gu s.l i 0).2,s.o⟩,k2) w ⟨hok,hso,⟨hk2,hrE⟩,n,by show fresh v'<n;omega,hN⟩ h.aK hless
   ·have cf:¬(fF s.q g X.af).1.1=0:=(by simpa using cf);rw[aw cf]at een;rw[een]at hN hok hless;rw[aw (by show ¬(1:Int)=0;decide)]at hN;refine aM h λw h=>ac (ac (Ck (b:=ap) (m0:=m0) (c0:=c0) (v:=v') h ?_));rw[hid];obtain⟨f,hf⟩:∃f,f=(fF s.q g X.af).1.1:=⟨_,rfl⟩;rw[←hf]at hN⊢;refine aq (tj b {X with k:=k2} (fF s.q g X.af).2 (i:Int) f) h λr w h=>?_;have hk3:=hk2.note (i:Int) f;obtain⟨k3,hke3⟩:∃k3,k3=nF k2 (i:Int) f:=⟨_,rfl⟩;rw[←hke3]at hk3;obtain⟨s1,s2,s3,h⟩:=h.fH a;have h:au w0 S R w (cN b {X with k:=k3} (fF s.q g X.af).2^mn ap m0 c0 v'^ah n7 (Ks.mk KS g)^ah a [aX s1,aX s2,aX s3,aC s.o.wd]^aQ s1 KS s.o.qY^aQ s2 KS s.o.dr^aQ s3 KI s.o.ft^bg):=(by rw[hke3];exact h.aK);have hl2:s.o.dr.length+[g].length≤4294967296:=(by have:=hl.1;rw[hso];simp only[gO];omega);have hl3:s.o.ft.length+[f].length≤4294967296:=(by have:=hl.2;rw[hso];simp only[gO];omega);have fin2:∀{w:World} {t2 t3:Sl},au w0 S R w (aQ t3 KI (s.o.ft++[f])^aQ t2 KS (s.o.dr++[g])^cN b {X with k:=k3} (fF s.q g X.af).2^mn ap m0 c0 v'^ah n7 (Ks.mk KS g)^ah a [aX s1,aX s2,aX s3,aC s.o.wd]^aQ s1 KS s.o.qY^bg)→
      (az (some ⟨a,0⟩) λq15=>st ⟨q15.b,q15.o+1⟩ [aX t2]<|az (some ⟨a,0⟩) λq16=>st ⟨q16.b,q16.o+2⟩ [aX t3]<|ld [.int .i64] ⟨n7,2⟩ λ(x31:Int)=>call Tryz.prog pQ [.lf (.ptr (some ⟨ap,0⟩)),.lf (.int .i64 x31)] [.lf (.int .i64)] λ(_:Int)=>λw=>au w0 S R w (yj (λy:Nat→Ct=>KL y e.l∧qW m0 c0 e.v) (λy=>cN b {X with k:=y} e.q^mn ap m0 c0 e.v^fH a e.o))) w:=by
     intro w t2 t3 h;refine ac (aB h a [aX s1,aX t2,aX s3,aC s.o.wd] rfl rfl rfl λw h=>?_);refine ac (aB h a [aX s1,aX t2,aX t3,aC s.o.wd] rfl rfl rfl λw h=>?_);have h:=h.xn a s1 t2 t3 {s.o with dr:=s.o.dr++[g],ft:=s.o.ft++[f]};refine aj (x:=g.2.2.1) h rfl (aq (yE ap m0 c0 v' ⟨hiv.i.ok.out.1,by have:=hiv.i.o;omega⟩ g.2.2.1 (by show gN g<_;omega)) h λr w h=>?_);obtain⟨_,h⟩:=h.aP;have h:au w0 S R w (cN b {X with k:=k3} (fF s.q g X.af).2^mn ap m0 c0 (cv v' g.2.2.1).2^fH a {s.o with dr:=s.o.dr++[g],ft:=s.o.ft++[f]}^bg):=h.aK;refine aK ⟨(cv v' g.2.2.1).2,(fF s.q g X.af).2,(cj (gu s.l i 0).2 s.o g f).2,(cj (gu s.l i 0).2 s.o g f).1⟩ k3 hN ?_ (hrE.done _) h;show KL k3 (gu (gu s.l i 0).2 (sK g) f).2;rw[hgk];exact hk3
    refine aM h λw h=>ay (b:=n7) (x:=g) h rfl (ac (ac (aj (x:=s2) h rfl (aj (x:=s3) h rfl (nq ?_ ?_)))))
    ·refine aD h λn11 w h=>aN h rfl (aN h rfl (nq ?_ ?_))
     ·have h:=h.ct n11 KS [g] rfl (by simp);have h:au w0 S R w (aQ ⟨some ⟨n11,0⟩,1,1⟩ KS [g]^_):=h;refine dF (K:=KS) (s:=s2) (xs:=s.o.dr) h rfl hl2 λt2 w _ h=>?_;refine aN h rfl (aD h λn13 w h=>aN h rfl (aN h rfl (aO (b:=n7) h ?_)));have h:=h.ct n13 KI [f] rfl (by simp);have h:au w0 S R w (aQ ⟨some ⟨n13,0⟩,1,1⟩ KI [f]^_):=h;refine dF (K:=KI) (s:=s3) (xs:=s.o.ft) h rfl hl3 λt3 w _ h=>?_;exact fin2 h.aK
     ·refine aD h λn17 w h=>aN h rfl (aN h rfl (aO (b:=n7) h ?_));have h:=h.ct n11 KS [g] rfl (by simp);have h:au w0 S R w (aQ ⟨some ⟨n11,0⟩,1,1⟩ KS [g]^_):=h;refine dF (K:=KS) (s:=s2) (xs:=s.o.dr) h rfl hl2 λt2 w _ h=>?_;refine aN h rfl ?_;have h:=h.ct n17 KI [f] rfl (by simp);have h:au w0 S R w (aQ ⟨some ⟨n17,0⟩,1,1⟩ KI [f]^_):=h;refine dF (K:=KI) (s:=s3) (xs:=s.o.ft) h rfl hl3 λt3 w _ h=>?_;exact fin2 h.aK
    ·refine aD h λn22 w h=>aN h rfl (aN h rfl (aO (b:=n7) h (aD h λn23 w h=>aN h rfl (aN h rfl ?_))));have h:=h.ct n23 KS [g] rfl (by simp);have h:au w0 S R w (aQ ⟨some ⟨n23,0⟩,1,1⟩ KS [g]^_):=h;refine dF (K:=KS) (s:=s2) (xs:=s.o.dr) h rfl hl2 λt2 w _ h=>?_;refine aN h rfl ?_;have h:=h.ct n22 KI [f] rfl (by simp);have h:au w0 S R w (aQ ⟨some ⟨n22,0⟩,1,1⟩ KI [f]^_):=h;refine dF (K:=KI) (s:=s3) (xs:=s.o.ft) h rfl hl3 λt3 w _ h=>?_;exact fin2 h.aK
end Tu

namespace Zr
open bK bp fh lJ mh fe xQ A1 yM qA A2 Cm D2 f_ Jn Lc Ss WU Lo Xo Tu
open eC (Sk cm cv eG iz iU c_ bu dW)
open Ld (mn)
open WY (qW)
open Xq (Ck wC)
theorem Ix(af:Int)(rates:List Int):∀(k:Nat) (v:Qm),(jW af rates k v).2.c=v.c
 |0,_=>rfl
 |k+1,v=>by
  unfold jW
  (repeat' split)<;>first|rfl|exact Ix af rates k _
theorem XX(v)(af:Int)(rates:List Int):(gU v af rates).2.c=v.c:=Ix af rates _ _
theorem X5(q g)(t:Int):(fF q g t).2.c=q.c:=by
 unfold fF;split
 ·rfl
 ·split
  ·rfl
  ·split
   ·rw[lJ.add_eq]
   ·rfl
theorem QH(q)(i:Int):(cz q i).2.c=q.c:=by unfold cz;(repeat' split)<;>rfl
theorem NJ(i af:Int):∀(n:Nat) (s:Pm),(lY i af n s).q.c=s.q.c
 |0,_=>rfl
 |n+1,s=>by
  have e:(enter i af s).1.q.c=s.q.c:=by unfold enter;dsimp only;split<;>exact X5 _ _ _
  unfold lY;split
  ·rfl
  ·split
   ·rw[NJ i af n,e]
   ·exact e
abbrev zO:List Lf:=[aX ⟨none,0,0⟩,aX ⟨none,0,0⟩,aX ⟨none,0,0⟩,aC 0]
theorem _root_.Go.X.au.sv(h:au w0 S0 R0 w F)(r o)(hr:r.2.2.2=o.wd)[tk:Take (aQ r.1 KS o.qY^aQ r.2.1 KS o.dr^aQ r.2.2.1 qA.KI o.ft) F G]:au w0 S0 R0 w (np r o^G):=au.je (p:=r.2.2.2=o.wd) (A:=aQ r.1 KS o.qY^aQ r.2.1 KS o.dr^aQ r.2.2.1 qA.KI o.ft) hr (h.le tk.le)
def HL(b n1 n20:Nat)(is:Bool)(R:Ks.T gn→WP):WP:=
 ar is (
 bQ<|
 az (some ⟨b,0⟩) λq21=>
 ld [.int .i64] ⟨n20,0⟩ λ(x22:Int)=>
 call Tryz.prog px [.lf (.ptr (some ⟨q21.b,q21.o+68⟩)),.lf (.int .i64 x22),.lf (.int .i64 (1:Int))] [.lf (.int .i64)] λ(r23:Int)=>
 ld KS ⟨n20,0⟩ λ(x24:Sg)=>
 new [aJ x24.1,aC x24.2.1,aJ x24.2.2.1,aC x24.2.2.2.1,a_ x24.2.2.2.2] λn25=>
 st ⟨n1,0⟩ [aX ⟨some ⟨n25,0⟩,1,1⟩,aX ⟨none,0,0⟩,aX ⟨none,0,0⟩,aC (0:Int)]<|
 ld gn ⟨n1,0⟩ λ(x26:Ks.T gn)=>
 R x26)<|
 az (some ⟨b,0⟩) λq27=>
 call Tryz.prog ni [.lf (.ptr (some ⟨q27.b,q27.o+1⟩))] [.lf (.int .u64),.lf .bool] λ(r28:Int×Bool)=>
 ar (!r28.2) (
 st ⟨n1,0⟩ [aX ⟨none,0,0⟩,aX ⟨none,0,0⟩,aX ⟨none,0,0⟩,aC (0:Int)]<|
 ld gn ⟨n1,0⟩ λ(x29:Ks.T gn)=>
 R x29)<|
 st ⟨n1,0⟩ [aX ⟨none,0,0⟩,aX ⟨none,0,0⟩,aX ⟨none,0,0⟩,aC (if r28.1>(1:Int)then r28.1 else(1:Int))]<|
 ld gn ⟨n1,0⟩ λ(x30:Ks.T gn)=>
 R x30
theorem Pe{w0 w:World}{S0 R0:Nat→Prop}{G:SP}{R:Ks.T gn→WP}{b n1 n20:Nat}{k:Nat→Ct}{p:Nat→bO}{v:Mc}(hk:KL k v.l)(hq:iM (gU v.q v.af (b_ v.so)).2)
  (h:au w0 S0 R0 w (ah n20 (Ks.mk KS (yp.Bm (gU v.q v.af (b_ v.so)).1).1)^cN b ⟨v.af,k,p⟩ (gU v.q v.af (b_ v.so)).2^ah n1 zO^G))
  (aK:∀(w':World) (r:Ks.T gn) (k':Nat→Ct) (q':Qm) (l':Nat→Ct) (o':Ou),fx v eZ=(o',{v with q:=q',l:=l'})→q'=(gU v.q v.af (b_ v.so)).2→KL k' l'→au w0 S0 R0 w' (np r o'^cN b ⟨v.af,k',p⟩ q'^G)→R r w'):HL b n1 n20 (yp.Bm (gU v.q v.af (b_ v.so)).1).2 R w:=by
 unfold HL;cases hd:gU v.q v.af (b_ v.so)with
 |mk x q'=>
 rw[hd]at h hq aK;dsimp only at h hq aK⊢;cases x with
 |some s=>
  have e:fx v eZ=(⟨[s],[],[],0⟩,{v with q:=q',l:=(gu v.l (sK s) 1).2}):=by unfold fx;rw[hd]
  refine ae (λ_=>?_) λc=>(by cases c);refine aM h λw h=>ac (aj (x:=sK s) h rfl (aq (tj b ⟨v.af,k,p⟩ q' (sK s) 1) h λr w h=>?_));refine ay (b:=n20) (x:=s) h rfl (aD h λn25 w h=>?_);have h:=h.ct n25 KS [s] rfl (by simp);have h:au w0 S0 R0 w (aQ ⟨some ⟨n25,0⟩,1,1⟩ KS [s]^_):=h;refine aA h (by rfl) λw h=>ay (b:=n1) (x:=((⟨some ⟨n25,0⟩,1,1⟩,⟨none,0,0⟩,⟨none,0,0⟩,0):Ks.T gn)) h rfl ?_;have h:=h.nil KS;have h:=h.nil qA.KI;have h:=h.sv (⟨some ⟨n25,0⟩,1,1⟩,⟨none,0,0⟩,⟨none,0,0⟩,0) ⟨[s],[],[],0⟩ rfl;exact aK w _ (nF k (sK s) 1) q' _ _ e rfl (hk.note _ _) h.aK
 |none=>
  refine ae (λc=>(by cases c)) λ_=>?_;refine ac (aI (Og b ⟨v.af,k,p⟩ q' hq) h λw h=>?_);dsimp only;have h:=h.nil KS;have h:=h.nil KS;have h:=h.nil qA.KI;refine ae (λc=>?_) λc=>?_
  ·have c:¬(lq q'.ks).2=true:=(by rw[Bool.not_eq_true];simpa using c);have e:fx v eZ=(eZ,{v with q:=q',l:=v.l}):=(by unfold fx;rw[hd];dsimp only;rw[if_neg c]);refine aA h (by rfl) λw h=>ay (b:=n1) (x:=((⟨none,0,0⟩,⟨none,0,0⟩,⟨none,0,0⟩,0):Ks.T gn)) h rfl ?_;have h:=h.sv (⟨none,0,0⟩,⟨none,0,0⟩,⟨none,0,0⟩,0) eZ rfl;exact aK w _ k q' _ _ e rfl hk h.aK
  ·have c:(lq q'.ks).2=true:=cS;obtain⟨y,hy⟩:∃y:Int,y=if(lq q'.ks).1.1>(1:Int)then(lq q'.ks).1.1 else(1:Int):=⟨_,rfl⟩
   have e:fx v eZ=(⟨[],[],[],y⟩,{v with q:=q',l:=v.l}):=by
    unfold fx;rw[hd];dsimp only;rw[if_pos c,hy]
    congr 2
    split<;>split<;>omega
   rw[←hy];refine aA h (by rfl) λw h=>ay (b:=n1) (x:=((⟨none,0,0⟩,⟨none,0,0⟩,⟨none,0,0⟩,y):Ks.T gn)) h rfl ?_;have h:=h.sv (⟨none,0,0⟩,⟨none,0,0⟩,⟨none,0,0⟩,y) ⟨[],[],[],y⟩ rfl;exact aK w _ k q' _ _ e rfl hk h.aK
theorem KH(b)(kk:Int)(v)(hv:jp kk v):bx (ZS (some ⟨b,0⟩)) (eY b v) (λr=>eY b (fx v eZ).2^np r (fx v eZ).1):=
 bF λw0 S R h=>by
  obtain⟨k,p,⟨hk,hqc⟩,h⟩:=(h.le (aG _)).eY b;refine aD h λn1 w h=>?_;have h:=h.nil KU;have h:=h.eD (s:=⟨none,0,0⟩) (K:=KU) (ys:=(b_ v.so).take (0:Int).toNat) rfl;have h:au w0 S R w (aQ ⟨none,0,0⟩ KU ((b_ v.so).take (0:Int).toNat)^cN b ⟨v.af,k,p⟩ v.q^qB p v.so^ah n1 zO^bg):=h.aK;refine fV (λ(y:Sl×Int) (_:Unit)=>aQ y.1 KU ((b_ v.so).take y.2.toNat)^cN b ⟨v.af,k,p⟩ v.q^qB p v.so^ah n1 zO^bg) (λ(y:Sl×Int) _=>0≤y.2∧y.2≤8) (λ(y:Sl×Int) _=>(8-y.2).toNat) () h ⟨by decide,by decide⟩ ?_;rintro K (y:Sl×Int) _ w ⟨h0,h1⟩ h next
  obtain⟨s,i⟩:=y;dsimp only at h0 h1 h⊢;refine ae (λc=>?_) λc=>?_
  ·have c:i<8:=bZ c;have hi8:i.toNat<8:=(by omega);have hwi:i64.wrap (i+1)=i+1:=fu;have hin:(i+1).toNat=i.toNat+1:=(by omega);rw[hwi];have hlen:((b_ v.so).take i.toNat).length=i.toNat:=(by rw[fU];show min i.toNat 8=_;omega);refine aS h (λ_=>aQ s KU ((b_ v.so).take i.toNat)^cN b ⟨v.af,k,p⟩ v.q^qB p v.so^ah n1 zO^bg) (λr:Int=>r=qx (v.so i.toNat)) (λ(r:Int) w hr h=>?_) ?_
   ·refine aD h λn9 w h=>?_;have h:=h.ct n9 KU [r] rfl (by simp);have h:au w0 S R w (aQ ⟨some ⟨n9,0⟩,1,1⟩ KU [r]^_):=h;refine dF (K:=KU) (s:=s) (xs:=(b_ v.so).take i.toNat) h rfl (by rw[hlen];simp only[gO];omega) λs' w _ h=>?_;have e:(b_ v.so).take i.toNat++[r]=(b_ v.so).take (i+1).toNat:=by rw[hin,lC,Au v.so hi8,hr];rfl
    rw[e]at h;exact next (s',i+1) () w ⟨by show 0≤i+1;omega,by show i+1≤8;omega⟩ h.aK (by show(8-(i+1)).toNat<(8-i).toNat;omega)
   ·refine ac ⟨⟨h0,c⟩,Pd (b:=b) (X:=⟨v.af,k,p⟩) (q:=v.q) h hi8 ?_⟩;dsimp only;cases hs:v.so i.toNat with
    |none=>
     obtain⟨hp,_⟩:=h.Rn p v.so hi8 hs;rw[hp];exact ae (λc=>(by simp at c)) λ_=>⟨rfl,h⟩
    |some x=>
     obtain⟨a,m0,⟨hp,hr⟩,h⟩:=h.IU p v.so hi8 hs;rw[hp];refine ae (λ_=>?_) λc=>(by simp at c);refine ac ⟨⟨h0,c⟩,Pd (b:=b) (X:=⟨v.af,k,p⟩) (q:=v.q) h hi8 ?_⟩;dsimp only;rw[hp];refine ac (wC (b:=a) (m0:=m0) (c0:=x.cap) (v:=x) h ?_);have h:=h.Q2 p v.so hi8 p v.so a m0 x (λ_ _=>rfl) (λ_ _=>rfl) hp hs hr;exact⟨rfl,h.aK⟩
  ·have c:¬i<8:=cd c;have e:(b_ v.so).take i.toNat=b_ v.so:=kF (by show 8≤i.toNat;omega);rw[e]at h;have hU:=v8 hv;have hok:=Lb.Gx hv.q hv.un hU;have aK:∀{w:World} {n20:Nat},au w0 S R w (ah n20 (Ks.mk KS (yp.Bm (gU v.q v.af (b_ v.so)).1).1)^cN b ⟨v.af,k,p⟩ (gU v.q v.af (b_ v.so)).2^ah n1 zO^qB p v.so^bg)→HL b n1 n20 (yp.Bm (gU v.q v.af (b_ v.so)).1).2 (λr w=>au w0 S R w (eY b (fx v eZ).2^np r (fx v eZ).1)) w:=λ{w n20} h=>Pe hk hok h λw' r k' q' l' o' he hq' hk' h=>by
    rw[he];have h:=h.lj b k' p {v with q:=q',l:=l'} ⟨hk',by show q'.c=v.c;rw[hq',XX];exact hqc⟩;exact h.aK
   refine aM h λw h=>ac (ac (xP (b:=b) (X:=⟨v.af,k,p⟩) (q:=v.q) h (nq ?_ ?_)))
   ·refine bR (A:=cN b ⟨v.af,k,p⟩ v.q) (Q:=aZ s KU (b_ v.so)) (FG b ⟨v.af,k,p⟩ v.q hv.q v.af hv.un s (b_ v.so) hU) h λr w h=>?_;obtain⟨hr,h⟩:=h.aP;rw[hr];refine aD h λn20 w h=>O_ (b:=b) (X:=⟨v.af,k,p⟩) (q:=(gU v.q v.af (b_ v.so)).2) h (aA h (by rfl) λw h=>?_);exact aK h.aK
   ·refine aD h λn31 w h=>O_ (b:=b) (X:=⟨v.af,k,p⟩) (q:=v.q) h ?_;refine bR (A:=cN b ⟨v.af,k,p⟩ v.q) (Q:=aZ s KU (b_ v.so)) (FG b ⟨v.af,k,p⟩ v.q hv.q v.af hv.un s (b_ v.so) hU) h λr w h=>?_;obtain⟨hr,h⟩:=h.aP;rw[hr];refine aA h (by rfl) λw h=>?_;exact aK h.aK
end Zr

namespace MqP
open bK bp fh lJ mh fe xQ A1 yM qA A2 Cm D2 f_ Jn Lc Ss WU Lo Xo Tu Zr
open eC (Sk cm cv eG iz iU c_ bu dW)
open Ld (mn Ca)
open RsG (FD)
open WY (qW yE I4 Ce)
open Xq (Ck wC)
open nz (pw)
theorem QQ(l o a):(dj l o a).1=⟨o.qY,o.dr++a,(dj l o a).1.ft,o.wd⟩:=by
 induction a generalizing l o with
 |nil=>show o=⟨o.qY,o.dr++[],o.ft,o.wd⟩;rw[qw]
 |cons x a ih=>
  show(dj (cj l o x 5).2 (cj l o x 5).1 a).1=⟨o.qY,o.dr++x::a,(dj (cj l o x 5).2 (cj l o x 5).1 a).1.ft,o.wd⟩;rw[ih];show(⟨o.qY,(o.dr++[x])++a,_,o.wd⟩:Ou)=_;rw[iD];rfl
theorem QI(hv:iM v)(i:Nat):∀s∈(cz v (i:Int)).1,sK s=(i:Int):=by
 intro s hs;unfold cz at hs;split at hs
 ·cases hs
 ·rw[eW]at hs;split at hs
  ·cases hs
  ·rename_i f hf;exact((hv.fl i f hf).2.sg s hs).1
theorem DH(b:Nat)(kk:Int)(v:Mc)(hv:jp kk v)(i:Nat)(hi:i<8):bx (Z3 (some ⟨b,0⟩) (i:Int)) (eY b v) (λr=>eY b (oH v i eZ).2^np r (oH v i eZ).1):=
 bF λw0 S R h=>by
  obtain⟨k,p,⟨hk,hqc⟩,h⟩:=(h.le (aG _)).eY b;have h:au w0 S R w0 (tW p v.so i^cN b ⟨v.af,k,p⟩ v.q^bg):=by
   cases hs:v.so i with
   |none=>exact(h.Rn p v.so hi hs).2.aK
   |some x=>obtain⟨ap,m0,_,h⟩:=h.IU p v.so hi hs;exact h.drop.aK
  refine aD h λn1 w h=>aD h λn2 w h=>ac ⟨by omega,?_⟩;rw[eW];refine Tk (b:=b) (X:=⟨v.af,k,p⟩) (q:=v.q) h hi none λw h=>?_;have h:=h.aag p v.so hi (gY p i none) (gY v.so i none) (λj hj=>kh p none hj) (λj hj=>kh v.so none hj) (fm p i none) (fm v.so i none);refine ac (aq (Hz b ⟨v.af,k,gY p i none⟩ v.q hv.q (i:Int)) h λr w h=>?_);have hck:=QI hv.q i;obtain⟨cl,hcl⟩:∃cl,cl=(cz v.q (i:Int)).1:=⟨_,rfl⟩;have hcn:cl.length≤512:=by rw[hcl];exact w5 hv.q i
  have hrl:=(h.rd (s:=r)).2;rw[←hcl]at hrl h hck;refine aB h n2 [aX ⟨none,0,0⟩,aX r,aX ⟨none,0,0⟩,aC 0] rfl rfl rfl λw h=>?_;have h:=h.nil qA.KI;have h:=h.eD (s:=⟨none,0,0⟩) (K:=qA.KI) (ys:=(dj v.l eZ (cl.take (0:Int).toNat)).1.ft) rfl;have h:au w0 S R w (aQ ⟨none,0,0⟩ qA.KI (dj v.l eZ (cl.take (0:Int).toNat)).1.ft^ah n2 [aX ⟨none,0,0⟩,aX r,aX ⟨none,0,0⟩,aC 0]^cN b ⟨v.af,k,gY p i none⟩ (cz v.q (i:Int)).2^qB (gY p i none) (gY v.so i none)^aQ r KS cl^ah n1 zO^bg):=h.aK;refine fV (λ(y:Int) (x:(Nat→Ct)×Sl)=>aQ x.2 qA.KI (dj v.l eZ (cl.take y.toNat)).1.ft^ah n2 [aX ⟨none,0,0⟩,aX r,aX x.2,aC 0]^cN b ⟨v.af,x.1,gY p i none⟩ (cz v.q (i:Int)).2^qB (gY p i none) (gY v.so i none)^aQ r KS cl^ah n1 zO^bg) (λ(y:Int) x=>(0≤y∧y≤cl.length)∧KL x.1 (dj v.l eZ (cl.take y.toNat)).2) (λ(y:Int) _=>(cl.length-y.toNat)) (k,⟨none,0,0⟩) h ⟨⟨by decide,by omega⟩,hk⟩ ?_;rintro K (y:Int) ⟨k1,s3⟩ w ⟨⟨h0,h1⟩,hk1⟩ h next
  dsimp only at hk1 h;refine aj (x:=r) h rfl (ae (λc=>?_) λc=>?_)
  ·have c:y<((r.len:Nat):Int):=bZ c;have hy:y.toNat<cl.length:=(by omega);have hwi:i64.wrap (y+1)=y+1:=fu;have hin:(y+1).toNat=y.toNat+1:=(by omega);obtain⟨s,hs⟩:∃s,cl[y.toNat]?=some s:=⟨_,gG hy⟩;obtain⟨d1,d2⟩:=xc v.l eZ (cl.take y.toNat);have dt:(cl.take y.toNat).length≤512:=(by rw[fU];omega);have e:dj v.l eZ (cl.take (y+1).toNat)=cj (dj v.l eZ (cl.take y.toNat)).2 (dj v.l eZ (cl.take y.toNat)).1 s 5:=(by rw[hin,lC,hs];exact BF _ _ _ _);refine ac (aq (tj b ⟨v.af,k1,gY p i none⟩ (cz v.q (i:Int)).2 (i:Int) 5) h λ_ w h=>?_);refine aj (x:=s3) h rfl (aD h λn12 w h=>?_);have h:=h.ct n12 qA.KI [5] rfl (by simp);have h:au w0 S R w (aQ ⟨some ⟨n12,0⟩,1,1⟩ qA.KI [5]^_):=h;have h0l:eZ.ft.length=0:=rfl;refine dF (K:=qA.KI) (s:=s3) (xs:=(dj v.l eZ (cl.take y.toNat)).1.ft) h rfl (by rw[d2];show eZ.ft.length+_+1≤_;omega) λt3 w _ h=>?_;refine aB h n2 [aX ⟨none,0,0⟩,aX r,aX t3,aC 0] rfl rfl rfl λw h=>?_;have h:=h.eD (s:=t3) (K:=qA.KI) (ys:=(dj v.l eZ (cl.take (y+1).toNat)).1.ft) (by rw[e];rfl);rw[hwi];refine next (y+1) (nF k1 (i:Int) 5,t3) w ⟨⟨by omega,by omega⟩,?_⟩ h.aK (by show cl.length-(y+1).toNat<cl.length-y.toNat;omega)
   have hks:=hk1.note (i:Int) 5;rw[e];show KL _ (gu _ (sK s) 5).2;rw[hck s (jr hs)];exact hks
  ·have c:¬y<((r.len:Nat):Int):=cd c;rw[kF (by omega)]at h hk1;refine ay (b:=n2) (x:=((⟨none,0,0⟩,r,s3,0):Ks.T gn)) h rfl (aA h (by rfl) λw h=>ay (b:=n1) (x:=((⟨none,0,0⟩,r,s3,0):Ks.T gn)) h rfl ?_);have h:=h.nil KS;have h:=h.sv (⟨none,0,0⟩,r,s3,0) ⟨[],cl,(dj v.l eZ cl).1.ft,0⟩ rfl;have e2:(dj v.l eZ cl).1=⟨[],cl,(dj v.l eZ cl).1.ft,0⟩:=QQ v.l eZ cl;have h:=h.lj b k1 (gY p i none) {v with so:=gY v.so i none,q:=(cz v.q (i:Int)).2,l:=(dj v.l eZ cl).2} ⟨hk1,(QH v.q i).trans hqc⟩;rw[show oH v i eZ=(⟨[],cl,(dj v.l eZ cl).1.ft,0⟩,{v with so:=gY v.so i none,q:=(cz v.q (i:Int)).2,l:=(dj v.l eZ cl).2}) by unfold oH;rw[←hcl,←e2]];exact h.aK
theorem WA{m0 c0:Int}(h:qW m0 c0 x)(af:Int)(d)(xs:List (Int×Int)):qW m0 c0 (dy x af d xs).2:=by
 unfold dy;split
 ·exact h.write _
 ·split
  ·exact h.Ek _ _ _
  ·split
   ·exact h.yl _
   ·exact h.done _
theorem Ym(id:Int)(c):qW (jz c) (jU c) (iU id (jz c) (jU c)):=⟨rfl,rfl,rfl⟩
theorem KM(b)(kk:Int)(v)(hv:jp kk v)(hkk:kk<1000000)(d)(hd:H_ d)(xs)(hxl:xs.length≤4294967296):
  bx (ZR (some ⟨b,0⟩) d) (eY b v^aZ (dR d) KR xs) (λr=>br (r.2=(iI v d xs eZ).1) (eY b (iI v d xs eZ).2.2^np r.1 (iI v d xs eZ).2.1)):=
 bF λw0 S R h=>by
  refine aD (h.le (aG _)) λn1 w h=>aD h λn2 w h=>?_;have h:au w0 S R w (ah n1 (Ks.mk KD d)^ah n2 zO^eY b v^aZ (dR d) KR xs^bg):=h.aK;have done:∀{w:World} (e:Int),iI v d xs eZ=(e,eZ,v)→au w0 S R w (ah n2 zO^eY b v^bg)→(st ⟨n2,0⟩ zO<|ld gn ⟨n2,0⟩ λ(x:Ks.T gn)=>(λ(r:Ks.T gn×Int) w=>au w0 S R w (br (r.2=(iI v d xs eZ).1) (eY b (iI v d xs eZ).2.2^np r.1 (iI v d xs eZ).2.1))) (x,e)) w:=by
   intro w e he h;rw[he];refine aA h (by rfl) λw h=>ay (b:=n2) (x:=((⟨none,0,0⟩,⟨none,0,0⟩,⟨none,0,0⟩,0):Ks.T gn)) h rfl ?_;have h:=h.nil KS;have h:=h.nil KS;have h:=h.nil qA.KI;have h:=h.sv (⟨none,0,0⟩,⟨none,0,0⟩,⟨none,0,0⟩,0) eZ rfl;exact au.aH rfl h.aK
  refine aS h (λ_=>ah n1 (Ks.mk KD d)^ah n2 zO^eY b v^aZ (dR d) KR xs^bg) (λ_=>0≤dS d∧dS d<8) (λ_ w c h=>?_) ?_;rotate_left
  ·have bad:¬(0≤dS d∧dS d<8)→iI v d xs eZ=(8,eZ,v):=λc=>by unfold iI;rw[aF c]
   refine aj (x:=dS d) h rfl (ae (λc=>?_) λc=>?_)
   ·have c:dS d<0:=bZ c;exact done 8 (bad (by omega)) h.aK
   ·have c:¬dS d<0:=cd c;refine aj (x:=dS d) h rfl (ae (λc2=>?_) λc2=>?_)
    ·have c2:dS d≥8:=bZ c2;exact done 8 (bad (by omega)) h.aK
    ·have c2:¬dS d≥8:=cd c2;exact⟨by omega,h⟩
  obtain⟨i,hi⟩:∃i:Nat,dS d=(i:Int):=⟨(dS d).toNat,by omega⟩;have hi8:i<8:=by omega
  have eit:((i:Nat):Int).toNat=i:=eW i;have hone:iI v d xs eZ=match v.so i with
    |none=>if dK d=1 then(0,eZ,{v with so:=gY v.so i (some (iU (i:Int) (jz v.c) (jU v.c)))})else(10,eZ,v)
    |some x=>if dK d=1 then(9,eZ,v)else if dK d=9 then(0,(oH v i eZ).1,(oH v i eZ).2)
     else if(dy x v.af d xs).1=0 then(0,(my v i (dy x v.af d xs).2 eZ).1,(my v i (dy x v.af d xs).2 eZ).2)
     else((dy x v.af d xs).1,eZ,{v with so:=gY v.so i (some (dy x v.af d xs).2)}):=by
   unfold iI;first
    |(rw[aw (λhh=>hh c),hi,eit];cases v.so i<;>rfl)
    |rw[aw (λhh=>hh c),hi,eit]
  refine aM h λw h=>?_;obtain⟨k,p,⟨hk,hqc⟩,h⟩:=h.eY b;have hsn:=aaj h p v.so hi8;refine aj (x:=dS d) h rfl (ac ⟨c,?_⟩);rw[hi,eit];refine Pd (b:=b) (X:=⟨v.af,k,p⟩) (q:=v.q) h hi8 (aj (x:=dK d) h rfl ?_);dsimp only;refine ae (λc1=>?_) λc1=>?_
  ·have c1:dK d=1:=(by simpa using c1);cases hs:v.so i with
   |some x=>
    rw[hs]at hsn hone;dsimp only at hone;rw[aF c1]at hone;refine ae (λ_=>?_) λcc=>(by rw[hsn]at cc;simp at cc);have h:=h.lj b k p v ⟨hk,hqc⟩;exact done 9 hone h.aK
   |none=>
    rw[hs]at hsn hone;dsimp only at hone;rw[aF c1]at hone;rw[hone];refine ae (λcc=>(by rw[hsn]at cc;simp at cc)) λ_=>?_;refine aM h λw h=>aj (x:=dS d) h rfl (aj (x:=dS d) h rfl (ac (ac (WK (b:=b) (X:=⟨v.af,k,p⟩) (q:=v.q) h ?_))));rw[hi,hqc];refine aq (Ce (i:Int) v.c (by have:=hv.c.bs;show jz v.c<_;omega)) (h.le ((aG _).trans (aU _ _))) λr w h=>?_;obtain⟨ap,h⟩:=h.lS;obtain⟨hr,h⟩:=h.aP;rw[hr];have h:au w0 S R w (mn ap (jz v.c) (jU v.c) (iU (i:Int) (jz v.c) (jU v.c))^ah n1 (Ks.mk KD d)^ah n2 zO^cN b ⟨v.af,k,p⟩ v.q^qB p v.so^bg):=h.aK;have h:au w0 S R w (mn ap (jz v.c) (iU (i:Int) (jz v.c) (jU v.c)).cap (iU (i:Int) (jz v.c) (jU v.c))^ah n1 (Ks.mk KD d)^ah n2 zO^cN b ⟨v.af,k,p⟩ v.q^qB p v.so^bg):=h;refine aN h (by show [Lf.int i64 (dS d)]=_;rw[hi];rfl) ⟨by omega,?_⟩;rw[eit];obtain⟨_,h⟩:=h.Rn p v.so hi8 hs;refine Tk (b:=b) (X:=⟨v.af,k,p⟩) (q:=v.q) h hi8 (some ⟨ap,0⟩) λw h=>?_;have h:=h.Q2 p v.so hi8 (gY p i (some ⟨ap,0⟩)) (gY v.so i (some (iU (i:Int) (jz v.c) (jU v.c)))) ap (jz v.c) (iU (i:Int) (jz v.c) (jU v.c)) (λj hj=>kh p _ hj) (λj hj=>kh v.so _ hj) (fm p i _) (fm v.so i _) (Ym (i:Int) v.c);have h:=h.lj b k (gY p i (some ⟨ap,0⟩)) {v with so:=gY v.so i (some (iU (i:Int) (jz v.c) (jU v.c)))} ⟨hk,hqc⟩;refine aA h (by rfl) λw h=>ay (b:=n2) (x:=((⟨none,0,0⟩,⟨none,0,0⟩,⟨none,0,0⟩,0):Ks.T gn)) h rfl ?_;have h:=h.nil KS;have h:=h.nil KS;have h:=h.nil qA.KI;have h:=h.sv (⟨none,0,0⟩,⟨none,0,0⟩,⟨none,0,0⟩,0) eZ rfl;exact au.aH rfl h.aK
  have c1:¬dK d=1:=by simpa using c1
  cases hs:v.so i with
  |none=>
   rw[hs]at hsn hone;dsimp only at hone;rw[aw c1]at hone;refine ae (λ_=>?_) λcc=>(by rw[hsn]at cc;simp at cc);have h:=h.lj b k p v ⟨hk,hqc⟩;exact done 10 hone h.aK
  |some x=>
   obtain⟨hx,hid,_⟩:=hv.so i x hs;rw[hs]at hsn hone;dsimp only at hone;rw[aw c1]at hone;refine ae (λcc=>(by rw[hsn]at cc;simp at cc)) λ_=>aj (x:=dK d) h rfl (ae (λc9=>?_) λc9=>?_)
   ·have c9:dK d=9:=(by simpa using c9);rw[aF c9]at hone;rw[hone];have h:=h.lj b k p v ⟨hk,hqc⟩;refine aj (x:=dS d) h rfl ?_;rw[hi];refine aq (DH b kk v hv i hi8) h λr w h=>?_;refine aA h (by rfl) λw h=>ay (b:=n2) (x:=(r:Ks.T gn)) h rfl ?_;exact au.aH rfl h.aK
   have c9:¬dK d=9:=(by simpa using c9);rw[aw c9]at hone;obtain⟨ap,m0,⟨hp,hr⟩,h⟩:=h.IU p v.so hi8 hs;obtain⟨hx2,hid2⟩:=pq hx hkk hv.un d xs;have hr2:=WA hr v.af d xs;rw[hp];have h:au w0 S R w (ah n1 (Ks.mk KD d)^ah n2 zO^cN b ⟨v.af,k,p⟩ v.q^mn ap m0 x.cap x^tW p v.so i^aZ (dR d) KR xs^bg):=h.aK;refine aS h (λ_=>ah n1 (Ks.mk KD d)^ah n2 zO^cN b ⟨v.af,k,p⟩ v.q^mn ap m0 x.cap (dy x v.af d xs).2^tW p v.so i^bg) (λy:Int=>y=(dy x v.af d xs).1) (λ(y:Int) w hy h=>?_) ?_;rotate_left
   ·refine aj (x:=dK d) h rfl (ae (λc2=>?_) λc2=>?_)
    ·have c2:dK d=2:=gJ;refine aM h λw h=>ac (aj (x:=dL d) h rfl (aq (I4 ap m0 x.cap x hx.i.ok.bf hr.l (by have:=hx.i.w;have:=hx.kr;omega) (dL d) hd.l) h λr w h=>?_));obtain⟨hr1,h⟩:=h.aP;rw[show dy x v.af d xs=eG x (dL d) by unfold dy;rw[aF c2]];exact⟨hr1,h.aK⟩
    have c2:¬dK d=2:=gJ;refine ae (λc3=>?_) λc3=>?_
    ·have c3:dK d=3:=(by simpa using c3);refine aM h λw h=>ac (aj (x:=dU d) h rfl (aj (x:=dR d) h rfl (xP (b:=b) (X:=⟨v.af,k,p⟩) (q:=v.q) h ?_)));refine bR (A:=mn ap m0 x.cap x) (Q:=aZ (dR d) KR xs) (FD ap m0 x.cap x hx.i.ok hx.i.ps hr.m v.af (dU d) hv.un (dR d) xs hxl) h λr w h=>?_;obtain⟨hr1,h⟩:=h.aP;rw[show dy x v.af d xs=ny.nP x v.af (dU d) xs by unfold dy;rw[aw c2,aF c3]];exact⟨hr1,h.aK⟩
    have c3:¬dK d=3:=(by simpa using c3);refine ae (λc4=>?_) λc4=>?_
    ·have c4:dK d=4:=(by simpa using c4);refine ac (xP (b:=b) (X:=⟨v.af,k,p⟩) (q:=v.q) h (aq (Ca ap m0 x.cap x hx.i.ok hr.m v.af hv.un) h λr w h=>?_));rw[show dy x v.af d xs=(0,iz x v.af) by unfold dy;rw[aw c2,aw c3,aF c4]];exact⟨rfl,h.aK⟩
    ·have c4:¬dK d=4:=(by simpa using c4);refine aj (x:=dL d) h rfl (aq (yE ap m0 x.cap x ⟨hx.i.ok.out.1,by have:=hx.i.o;omega⟩ (dL d) hd.l) h λr w h=>?_);obtain⟨hr1,h⟩:=h.aP;rw[show dy x v.af d xs=cv x (dL d) by unfold dy;rw[aw c2,aw c3,aw c4]];exact⟨hr1,h.aK⟩
   rw[hy];obtain⟨x',hx'⟩:∃x',x'=(dy x v.af d xs).2:=⟨_,rfl⟩;obtain⟨e,he⟩:∃e,e=(dy x v.af d xs).1:=⟨_,rfl⟩;rw[←hx']at hr2 hx2 hid2 h hone;rw[←he]at hone⊢;have hcap:=hr2.c;rw[←hcap]at h hr2;have hxv:yN (kk+1) i ⟨x',v.q,v.l,eZ⟩:=⟨hx2,hid2.trans hid,hv.q⟩;refine aD h λn42 w h=>?_;have h:=h.nil KS;have h:=h.nil KS;have h:=h.nil qA.KI;have h:=h.xn n42 ⟨none,0,0⟩ ⟨none,0,0⟩ ⟨none,0,0⟩ eZ;have h:au w0 S R w (fH n42 eZ^cN b ⟨v.af,k,p⟩ v.q^mn ap m0 x'.cap x'^tW p v.so i^ah n2 zO^bg):=h.aK;refine aS h (λ_=>fH n42 (iI v d xs eZ).2.1^eY b (iI v d xs eZ).2.2^ah n2 zO^bg) (λ_=>e=(iI v d xs eZ).1) (λ_ w hy h=>?_) ?_
   ·obtain⟨s1,s2,s3,h⟩:=h.fH n42;refine ay (b:=n42) (x:=((s1,s2,s3,(iI v d xs eZ).2.1.wd):Ks.T gn)) h rfl (aA h (by rfl) λw h=>ay (b:=n2) (x:=((s1,s2,s3,(iI v d xs eZ).2.1.wd):Ks.T gn)) h rfl ?_);have h:=h.sv (s1,s2,s3,(iI v d xs eZ).2.1.wd) (iI v d xs eZ).2.1 rfl;exact au.aH hy h.aK
   ·refine ae (λc0=>?_) λc0=>?_
    ·have c0:e=0:=(by simpa using c0);rw[aF c0]at hone;rw[hone];refine aq (KJ b ap n42 (kk+1) ⟨v.af,k,p⟩ hv.un i x' v.q v.l eZ m0 hxv hr2 hk (by show(0:Nat)≤999∧(0:Nat)≤999;decide)) h λ_ w h=>?_;obtain⟨k2,⟨hk2,hr3⟩,h⟩:=h.vQ;obtain⟨s,hse⟩:∃s,s=pi i v.af ⟨x',v.q,v.l,eZ⟩:=⟨_,rfl⟩;have hqs:s.q.c=v.q.c:=(by rw[hse];exact NJ i v.af _ _);dsimp only at h hk2 hr3;rw[←hse]at h hk2 hr3;have hc3:=hr3.c;rw[←hc3]at h hr3;have h:au w0 S R w (mn ap m0 s.v.cap s.v^tW p v.so i^cN b ⟨v.af,k2,p⟩ s.q^fH n42 s.o^ah n2 zO^bg):=h.aK;have h:=h.Q2 p v.so hi8 p (gY v.so i (some s.v)) ap m0 s.v (λ_ _=>rfl) (λj hj=>kh v.so _ hj) hp (fm v.so i _) hr3;have h:=h.lj b k2 p {v with so:=gY v.so i (some s.v),q:=s.q,l:=s.l} ⟨hk2,hqs.trans hqc⟩;rw[show my v i x' eZ=(s.o,{v with so:=gY v.so i (some s.v),q:=s.q,l:=s.l}) by unfold my;rw[←hse]];exact⟨c0,h.aK⟩
    ·have c0:¬e=0:=(by simpa using c0);rw[aw c0]at hone;rw[hone];have h:=h.Q2 p v.so hi8 p (gY v.so i (some x')) ap m0 x' (λ_ _=>rfl) (λj hj=>kh v.so _ hj) hp (fm v.so i _) hr2;have h:=h.lj b k p {v with so:=gY v.so i (some x')} ⟨hk,hqc⟩;exact⟨rfl,h.aK⟩
end MqP

namespace Zq
open bK bp fh lJ mh fe xQ A1 yM qA A2 Cm D2 f_ Jn Lc Ss WU Lo Xo Tu Zr MqP
open eC (Sk cm cv eG iz iU c_ bu dW)
open Ld (mn)
open WY (qW)
open Xq (Ck wC)
section
variable {w0 w:World} {S0 R0:Nat→Prop} {F G:SP} {b:Nat} {X:Cx} {q:Qm}
theorem WN(h:au w0 S0 R0 w F)[tk:Take (cN b X q) F G](x:Int){K:WP}(k:∀w',au w0 S0 R0 w' (cN b {X with af:=x} q^G)→K w'):st ⟨b,0⟩ [aC x] K w:=by
 obtain⟨r,t,hq,h⟩:=(h.le tk.le).cN b X q;obtain⟨s1,s2,h⟩:=h.kq b X (eA X q.c r t) q.lv;refine aB h b (mB {X with af:=x} q.c r t s1 s2) rfl rfl rfl λw h=>?_;have h:=h.dT b {X with af:=x} (eA {X with af:=x} q.c r t) s1 s2 q.lv;exact k w (h.gk b {X with af:=x} q r t hq).aK
theorem WM(h:au w0 S0 R0 w F)[tk:Take (cN b X q) F G](c:Cf){K:WP}(k:∀w',au w0 S0 R0 w' (cN b X {q with c:=c}^G)→K w'):st ⟨b,0+1⟩ (Ks.mk KC c) K w:=by
 obtain⟨r,t,hq,h⟩:=(h.le tk.le).cN b X q;obtain⟨s1,s2,h⟩:=h.kq b X (eA X q.c r t) q.lv;refine aB h b (mB X c r t s1 s2) rfl rfl rfl λw h=>?_;have h:=h.dT b X (eA X c r t) s1 s2 q.lv;rw[show fP q=fP {q with c:=c}from rfl]at h;exact k w (h.gk b X {q with c:=c} r t ⟨hq.t,hq.r⟩).aK
end
theorem KE(c):bx (ZH c) bg (λr=>ex λb:Nat=>br (r=if may c then(some ⟨b,0⟩,0)else(none,13)) (if may c then eY b (eF c)else bg)):=
 bF λw0 S R h=>by
  refine aD (h.le (aG _)) λn1 w h=>ay (b:=n1) (x:=c) h rfl (aI (Ln.FJ c) h λw h=>?_);by_cases hm:may c=true
  ·refine ae (λcc=>(by rw[hm]at cc;cases cc)) λ_=>?_;refine ay (b:=n1) (x:=c) h rfl (aD h λn5 w h=>?_);have h:=h.eP (b:=n5) (L':=mB ⟨0,λ_=>Lg,λ_=>none⟩ c (λ_=>zF) (λ_=>false) ⟨none,0,0⟩ ⟨none,0,0⟩) rfl;have h:=(h.nil KI).nil KI;have h:=h.dT n5 ⟨0,λ_=>Lg,λ_=>none⟩ (eA ⟨0,λ_=>Lg,λ_=>none⟩ c (λ_=>zF) (λ_=>false)) ⟨none,0,0⟩ ⟨none,0,0⟩ ([],[]);obtain⟨T,hT⟩:∃T,T=kq n5 ⟨0,λ_=>Lg,λ_=>none⟩ (eA ⟨0,λ_=>Lg,λ_=>none⟩ c (λ_=>zF) (λ_=>false)) ([],[]):=⟨_,rfl⟩;rw[←hT]at h;have h:au w0 S R w (T^bg):=h.aK;have h8:∀k,au w0 S R w (eB (rC (λ_=>zF) (fP (C4 c))) k^T^bg):=λk=>by
    induction k with
    |zero=>exact h.le ((aG _).trans (aU _ _))
    |succ k ih=>exact(ih.nil KS).le (dh _ _ _)
   have h:=h8 8;rw[hT]at h;have h:=h.gk n5 ⟨0,λ_=>Lg,λ_=>none⟩ (C4 c) (λ_=>zF) (λ_=>false) ⟨λ_ _=>rfl,λ_ _=>rfl⟩;have e:qB (λ_=>none) (λ_=>none)=eB (λ_=>br ((none:bO)=none) bg) 8:=rfl;have hall:∀n,Le bg (eB (λ_=>br ((none:bO)=none) bg) n):=λn=>by
    induction n with
    |zero=>exact Le.rfl
    |succ n ih=>exact(aG bg).trans (ba (λ_ _ _ h=>⟨rfl,h⟩) ih)
   have h:au w0 S R w (qB (λ_=>none) (λ_=>none)^_):=(h.le ((aG _).trans (aU _ _))).le (ba (by rw[e];exact hall 8) Le.rfl);have h:=h.lj n5 (λ_=>Lg) (λ_=>none) (eF c) ⟨λ_=>rfl,rfl⟩;refine au.gI n5 (au.aH (by rw[aF hm]) ?_);rw[aF hm];exact h.bq
  ·refine ae (λ_=>?_) λcc=>(by simp at cc;exact absurd cc hm);refine au.gI 0 (au.aH (by rw[aw hm]) ?_);rw[aw hm];exact h.h_
theorem Rw(v d)(xs:List (Int×Int))(h:(iI v d xs eZ).1≠0):(iI v d xs eZ).2.1=eZ:=by
 unfold iI at h⊢;split
 ·rfl
 ·rename_i c;rw[aw c]at h;split
  ·split<;>rfl
  ·rename_i x hx;rw[hx]at h;dsimp only at h;split
   ·rfl
   ·rename_i c1;rw[aw c1]at h;split
    ·rename_i c9;rw[aF c9]at h;exact absurd rfl h
    ·rename_i c9;rw[aw c9]at h;split
     ·rename_i c0;rw[aF c0]at h;exact absurd rfl h
     ·rfl
theorem RK(b)(kk:Int)(v)(hv:jp kk v)(hkk:kk<1000000)(d)(hd:H_ d)(xs)(hxl:xs.length≤4294967296):
  bx (ZI (some ⟨b,0⟩) d) (eY b v^aZ (dR d) KR xs) (λr=>br (r.2=(nj v d xs).1.2) (eY b (nj v d xs).2^np r.1 (nj v d xs).1.1)):=
 bF λw0 S R h=>by
  refine aD (h.le (aG _)) λn1 w h=>aD h λn2 w h=>aj (x:=dK d) h rfl ?_;have h:au w0 S R w (ah n1 (Ks.mk KD d)^ah n2 zO^eY b v^aZ (dR d) KR xs^bg):=h.aK;have done:∀{w:World} (e:Int) (v':Mc),nj v d xs=((eZ,e),v')→au w0 S R w (ah n2 zO^eY b v'^bg)→(st ⟨n2,0⟩ zO<|ld gn ⟨n2,0⟩ λ(x:Ks.T gn)=>(λ(r:Ks.T gn×Int) w=>au w0 S R w (br (r.2=(nj v d xs).1.2) (eY b (nj v d xs).2^np r.1 (nj v d xs).1.1))) (x,e)) w:=by
   intro w e v' he h;rw[he];refine aA h (by rfl) λw h=>ay (b:=n2) (x:=((⟨none,0,0⟩,⟨none,0,0⟩,⟨none,0,0⟩,0):Ks.T gn)) h rfl ?_;have h:=h.nil KS;have h:=h.nil KS;have h:=h.nil qA.KI;have h:=h.sv (⟨none,0,0⟩,⟨none,0,0⟩,⟨none,0,0⟩,0) eZ rfl;exact au.aH rfl h.aK
  refine aS h (λ_=>ah n1 (Ks.mk KD d)^ah n2 zO^eY b v^aZ (dR d) KR xs^bg) (λy:Bool=>y=vI (dK d)) (λ(y:Bool) w hy h=>?_) ?_;rotate_left
  ·unfold vI;refine ae (λc=>⟨by rw[c];rfl,h⟩) λd1=>?_;refine ae (λc=>⟨by rw[d1,c];rfl,h⟩) λd2=>?_;refine ae (λc=>⟨by rw[d1,d2,c];rfl,h⟩) λd3=>?_;refine ae (λc=>⟨by rw[d1,d2,d3,c];rfl,h⟩) λd4=>?_;refine ae (λc=>⟨by rw[d1,d2,d3,d4,c];rfl,h⟩) λd5=>?_;exact⟨by rw[d1,d2,d3,d4,d5];rfl,h⟩
  rw[hy];refine ae (λc=>?_) λc=>?_
  ·have ho:=Yp c;have estep:dQ v d xs=iI v d xs eZ:=(by unfold dQ;rw[aw (by omega),aw (by omega),aw (by omega),aF c]);refine ay (b:=n1) (x:=d) h rfl ?_;refine bR (A:=eY b v) (Q:=aZ (dR d) KR xs) (KM b kk v hv hkk d hd xs hxl) h λr w h=>?_;obtain⟨hr,h⟩:=h.aP;refine aA h (by rfl) λw h=>ay (b:=n2) (x:=(r.1:Ks.T gn)) h rfl ?_;have hdo:nj v d xs=(((iI v d xs eZ).2.1,(iI v d xs eZ).1),(iI v d xs eZ).2.2):=by
    unfold nj;rw[estep];by_cases h0:(iI v d xs eZ).1=0
    ·rw[aw (λx=>x h0),h0]
    ·rw[aF h0,Rw v d xs h0]
   rw[hdo];exact au.aH hr h.aK
  have hno:vI (dK d)=false:=c;refine ae (λc5=>?_) λc5=>?_
  ·have c5:dK d=5:=(by simpa using c5);have hdo:nj v d xs=((eZ,(ib v.af (dA d)).1),{v with af:=(ib v.af (dA d)).2}):=by
    have e:dQ v d xs=((ib v.af (dA d)).1,eZ,{v with af:=(ib v.af (dA d)).2}):=(by unfold dQ;rw[aF c5]);unfold nj;rw[e];by_cases h0:(ib v.af (dA d)).1=0
    ·rw[aw (λx=>x h0),h0]
    ·rw[aF h0]
   refine aj (x:=dA d) h rfl (ae (λc1=>?_) λc1=>?_)
   ·have c1:dA d>4611686018427387904:=bZ c1;have em:ib v.af (dA d)=(3,v.af):=(by unfold ib;rw[aF c1]);rw[em]at hdo;exact done 3 v hdo h.aK
   have c1:¬dA d>4611686018427387904:=cd c1;obtain⟨k,p,hk,h⟩:=h.eY b;refine aM h λw h=>aj (x:=dA d) h rfl (ac (xP (b:=b) (X:=⟨v.af,k,p⟩) (q:=v.q) h (ae (λc2=>?_) λc2=>?_)))
   ·have c2:dA d<v.af:=bZ c2;have em:ib v.af (dA d)=(4,v.af):=(by unfold ib;rw[aw c1,aF c2]);rw[em]at hdo;have h:=h.lj b k p v hk;exact done 4 v hdo h.aK
   ·have c2:¬dA d<v.af:=cd c2;have em:ib v.af (dA d)=(0,dA d):=(by unfold ib;rw[aw c1,aw c2]);rw[em]at hdo;refine aj (x:=dA d) h rfl (ac (WN (b:=b) (X:=⟨v.af,k,p⟩) (q:=v.q) h (dA d) λw h=>?_));have h:=h.lj b k p {v with af:=dA d} hk;exact done 0 _ hdo h.aK
  have c5:¬dK d=5:=by simpa using c5
  refine ae (λc6=>?_) λc6=>?_
  ·have c6:dK d=6:=(by simpa using c6);have hdo:nj v d xs=(((fx v eZ).1,0),(fx v eZ).2):=by
    have e:dQ v d xs=(0,(fx v eZ).1,(fx v eZ).2):=(by unfold dQ;rw[aw c5,aF c6]);unfold nj;rw[e,aw (λx=>x rfl)]
   rw[hdo];refine aq (KH b kk v hv) h λr w h=>?_;refine aA h (by rfl) λw h=>ay (b:=n2) (x:=(r:Ks.T gn)) h rfl ?_;exact au.aH rfl h.aK
  have c6:¬dK d=6:=by simpa using c6
  refine ae (λc8=>?_) λc8=>?_
  ·have c8:dK d=8:=(by simpa using c8);have hst:dQ v d xs=((qT v (dC d)).1,eZ,(qT v (dC d)).2):=(by unfold dQ;rw[aw c5,aw c6,aF c8]);refine aj (x:=dC d) h rfl (aI (Ln.FJ (dC d)) h λw h=>?_);refine ae (λc1=>?_) λc1=>?_
   ·have c1:¬may (dC d)=true:=(by simpa using c1);have es:qT v (dC d)=(13,v):=(by unfold qT pI;rw[aw c1];rfl);have hdo:nj v d xs=((eZ,13),v):=(by unfold nj;rw[hst,es];rfl);exact done 13 v hdo h.aK
   ·have c1:may (dC d)=true:=(by simpa using c1);have es:qT v (dC d)=(0,{v with q:={v.q with c:=dC d},c:=dC d}):=(by unfold qT pI;rw[aF c1];rfl);have hdo:nj v d xs=((eZ,0),{v with q:={v.q with c:=dC d},c:=dC d}):=(by unfold nj;rw[hst,es];rfl);obtain⟨k,p,hk,h⟩:=h.eY b;refine aj (x:=dC d) h rfl (ac (WM (b:=b) (X:=⟨v.af,k,p⟩) (q:=v.q) h (dC d) λw h=>?_));have h:=h.lj b k p {v with q:={v.q with c:=dC d},c:=dC d} ⟨hk.1,rfl⟩;exact done 0 _ hdo h.aK
  have c8:¬dK d=8:=by simpa using c8
  have hdo:nj v d xs=((eZ,12),v):=by
   have e:dQ v d xs=(12,eZ,v):=(by unfold dQ;rw[aw c5,aw c6,aw c8,aw (by rw[hno];simp)]);unfold nj;rw[e];rfl
  exact done 12 v hdo h.aK
end Zq

namespace Zu
open bK bp fh lJ mh fe xQ A1 yM qA A2 Cm D2 K9 K_ La Pq Ln Tp W4 Xu YW
open Tu (eY)
theorem KK(c)(hm:may c=true)(hc:yq c)(s ps)(hl:ps.length≤1000)(hd:∀p∈ps,H_ p.1)(hx:∀p∈ps,p.2.length≤4294967296):bx (PT c s) (bg^nU s ps)
  (λr=>ex λrs:List OR=>br (rs.map Prod.snd=mZ (eF c) ps ps.length) (KV r rs (fS (eF c) ps ps.length))):=
 bF λw0 S R h=>by
  have hsl:=(h.rd (s:=s)).2;rw[fy]at hsl;refine aD h λn1 w h=>ay (b:=n1) (x:=c) h rfl (aq (Zq.KE c) (h.le ((aG _).trans (aU _ _))) λr w h=>?_);obtain⟨b,h⟩:=h.lS;obtain⟨hr,h⟩:=h.aP;rw[aF hm]at hr h;rw[hr];refine ae (λc=>(by cases c)) λ_=>?_;have h:=h.nil gn;have h:=h.nil KI;have h:au w0 S R w (eY b (kO (eF c) ps (0:Int).toNat)^aQ ⟨none,0,0⟩ gn (([]:List OR).map Prod.fst)^aQ ⟨none,0,0⟩ KI (fS (eF c) ps (0:Int).toNat)^rl oR []^nU s ps):=au.aK (A:=eY b (eF c)^aQ ⟨none,0,0⟩ gn []^aQ ⟨none,0,0⟩ KI []^bg^nU s ps) h;refine fV (λ(y:Sl×Sl×Int) (rs:List OR)=>eY b (kO (eF c) ps y.2.2.toNat)^aQ y.1 gn (rs.map Prod.fst)^aQ y.2.1 KI (fS (eF c) ps y.2.2.toNat)^rl oR rs^nU s ps) (λ(y:Sl×Sl×Int) rs=>(0≤y.2.2∧y.2.2≤ps.length)∧rs.map Prod.snd=mZ (eF c) ps y.2.2.toNat) (λ(y:Sl×Sl×Int) _=>((ps.length:Int)-y.2.2).toNat) [] h ⟨⟨ig 0,by show(0:Int)≤_;omega⟩,rfl⟩ ?_;rintro K (y:Sl×Sl×Int) rs w ⟨hyr,hrl⟩ h next
  obtain⟨y1,y2,y3⟩:=y;dsimp only at hyr hrl h next⊢
  have hrs:rs.length=y3.toNat:=by have:=dm List.length hrl;rw[fy,zN]at this;exact this
  refine ae (λc0=>?_) λc0=>?_
  ·have c0:y3<((s.len:Nat):Int):=bZ c0;have hlt:y3.toNat<ps.length:=(by omega);obtain⟨p,hpi⟩:∃p,ps[y3.toNat]?=some p:=⟨_,gG hlt⟩;have hpa:uG ps y3.toNat=p:=(by unfold uG;rw[lB,hpi];rfl);have hdm:(ps.map Prod.fst)[y3.toNat]?=some p.1:=(by rw[kV,hpi];rfl);have hdl:y3.toNat<(ps.map Prod.fst).length:=(by rw[fy];exact hlt);have hmem:=jr hpi;refine bT (s:=s) h hyr.1 hdl (eE h s y3.toNat hdm rfl ?_)
   haveI:=S4 hpi
   have hv:=wj hc hd y3.toNat (by omega) (by omega);have h:au w0 S R w (eY b (kO (eF c) ps y3.toNat)^(aQ y1 gn (rs.map Prod.fst)^aQ y2 KI (fS (eF c) ps y3.toNat)^rl oR rs)^nU s ps):=h.aK;refine bR (A:=eY b (kO (eF c) ps y3.toNat)) (Q:=aZ (dR p.1) KR p.2) (Zq.RK b _ _ hv (by omega) p.1 (hd p hmem) p.2 (hx p hmem)) h λr w h=>?_;obtain⟨hre,h⟩:=h.aP;obtain⟨ro,re⟩:=r;dsimp only at hre h⊢;rw[←hpa]at hre h;obtain⟨on,hon⟩:∃on,on=(nj (kO (eF c) ps y3.toNat) (uG ps y3.toNat).1 (uG ps y3.toNat).2).1.1:=⟨_,rfl⟩;rw[←hon]at h;have h:au w0 S R w (np ro on^eY b (kO (eF c) ps (y3.toNat+1))^aQ y1 gn (rs.map Prod.fst)^aQ y2 KI (fS (eF c) ps y3.toNat)^rl oR rs^nU s ps):=au.aK (A:=np ro on^eY b (nj (kO (eF c) ps y3.toNat) (uG ps y3.toNat).1 (uG ps y3.toNat).2).2^aQ y1 gn (rs.map Prod.fst)^aQ y2 KI (fS (eF c) ps y3.toNat)^rl oR rs^nU s ps) h;refine aD h λn12 w h=>aB h n12 (Ks.mk gn ro) rfl rfl rfl λw h=>ay (b:=n12) (x:=ro) h rfl ?_;refine aD h λn14 w h=>?_;have h:=h.ct n14 gn [ro] rfl (by simp);have h:au w0 S R w (aQ ⟨some ⟨n14,0⟩,1,1⟩ gn [ro]^_):=h;have h:au w0 S R w (aQ y1 gn (rs.map Prod.fst)^aQ ⟨some ⟨n14,0⟩,1,1⟩ gn [ro]^np ro on^eY b (kO (eF c) ps (y3.toNat+1))^aQ y2 KI (fS (eF c) ps y3.toNat)^rl oR rs^nU s ps):=h.aK;refine dF (s:=y1) (x:=⟨some ⟨n14,0⟩,1,1⟩) h rfl (by rw[fy,hrs];show _+1≤_;omega) λs15 w _ h=>?_;refine aD h λn16 w h=>?_;have h:=h.ct n16 KI [re] rfl (by simp);have h:au w0 S R w (aQ ⟨some ⟨n16,0⟩,1,1⟩ KI [re]^_):=h;have h:au w0 S R w (aQ y2 KI (fS (eF c) ps y3.toNat)^aQ ⟨some ⟨n16,0⟩,1,1⟩ KI [re]^aQ s15 gn (rs.map Prod.fst++[ro])^np ro on^eY b (kO (eF c) ps (y3.toNat+1))^rl oR rs^nU s ps):=h.aK;refine dF (s:=y2) (x:=⟨some ⟨n16,0⟩,1,1⟩) h rfl (by rw[vo];show _+1≤_;omega) λs17 w _ h=>?_;have hwi:i64.wrap (y3+1)=y3+1:=fu;have he:fS (eF c) ps y3.toNat++[re]=fS (eF c) ps (y3.toNat+1):=(by rw[hre];rfl);have h1:(y3+1).toNat=y3.toNat+1:=(by omega);rw[hwi];have ea:rs.map Prod.fst++[ro]=(rs++[((ro,on):OR)]).map Prod.fst:=(by rw[mA];rfl);have eb:(rs++[((ro,on):OR)]).map Prod.snd=mZ (eF c) ps (y3.toNat+1):=(by rw[mA,hrl,hon];rfl);rw[he,ea]at h;have h:au w0 S R w ((eY b (kO (eF c) ps (y3.toNat+1))^aQ s15 gn ((rs++[((ro,on):OR)]).map Prod.fst)^aQ s17 KI (fS (eF c) ps (y3.toNat+1))^nU s ps)^(rl oR rs^np ro on)):=h.aK;have h:=h.le (ba Le.rfl (qR oR (ro,on) rs));refine next (s15,s17,y3+1) (rs++[(ro,on)]) w ⟨⟨by show 0≤y3+1;omega,by show y3+1≤_;omega⟩,by show _=mZ (eF c) ps (y3+1).toNat;rw[h1];exact eb⟩ ?_ (by show((ps.length:Int)-(y3+1)).toNat<((ps.length:Int)-y3).toNat;omega)
   show au w0 S R w (eY b (kO (eF c) ps (y3+1).toNat)^aQ s15 gn ((rs++[((ro,on):OR)]).map Prod.fst)^aQ s17 KI (fS (eF c) ps (y3+1).toNat)^rl oR (rs++[((ro,on):OR)])^nU s ps);rw[h1];exact h.aK
  ·have c0:¬y3<((s.len:Nat):Int):=cd c0;have e:y3.toNat=ps.length:=(by omega);rw[e]at h hrl;have h:au w0 S R w (aQ y1 gn (rs.map Prod.fst)^aQ y2 KI (fS (eF c) ps ps.length)^rl oR rs):=h.aK;exact au.gI rs (au.aH hrl h)
section
variable {w0 w:World} {S0 R0:Nat→Prop} {F:SP}
end
end Zu

namespace ScJ
open rD Jq D_ yg Xs YV Cp WZ
theorem HB(h : Lib.TabIs Tryz.prog w "internal/strconv.uint64pow10" .u64 Lib.pow10Tab): ∃ R : Nat → Prop, Zh.h w (fun _ => False) R := by
 have hg : Tryz.prog.globalNamed "internal/strconv.uint64pow10" = some 0 := by kernel_rfl
 unfold Lib.TabIs World.var? at h;rw[hg]at h;dsimp only[Option.bind_some]at h;refine⟨λk=>k=0,?_,λ_ h=>h,λ_=>mC⟩;split at h
 ·rename_i cs T fr hh;have e:cs=Wf:=kG h;exact⟨T,fr,by rw[←e];exact hh⟩
 ·cases h
end ScJ

namespace ScV
open bK bp fh lJ mh fe xQ A1 yM qA A2 Cm D2 K9 K_ La Pq Ln Tp W4 Xu YW Zu
open eC (Sk cm cv eG iz iU)
theorem zd(u):∀x∈_root_.Go.Lib.decDigits u,x≠(10:UInt8):=by
 induction u using Nat.strongRecOn with
 |ind u ih=>
  have one:∀k:Nat,k<10→UInt8.ofNat (48+k)≠10:=by decide
  rw[_root_.Go.Lib.decDigits];split
  ·rename_i hu;intro x hx;rw[gH.1 hx];exact one u hu
  ·intro x hx;rcases dX.1 hx with hx|hx
   ·exact ih _ (by omega) x hx
   ·rw[gH.1 hx];exact one _ (DF _ (by decide))
def nl(l:List UInt8):Nat:=l.count 10
theorem Yn(h:∀x∈l,x≠10):nl l=0:=List.count_eq_zero.2 λhm=>h _ hm rfl
theorem C5(a b):nl (a++b)=nl a+nl b:=List.count_append
theorem Wp(s):∀x∈rD.KY s,x≠10:=by
 intro x hx;unfold rD.KY rD.dg at hx;simp only[dX,gH]at hx;rcases hx with(((hx|hx)|hx)|hx)|hx
 ·exact zd _ x hx
 ·rw[hx];decide
 ·exact zd _ x hx
 ·rw[hx];decide
 ·exact zd _ x hx
theorem ON(hs:∀x∈sg,x≠10)(l):∀x∈rD.oI sg l,x≠10:=by
 intro x hx;unfold rD.oI at hx;obtain⟨s,_,hx⟩:=List.mem_flatMap.1 hx;rcases dX.1 hx with hx|hx
 ·exact hs x hx
 ·exact Wp s x hx
theorem Ry(o):∀x∈rD.Fe o,x≠10:=by
 intro x hx;unfold rD.Fe at hx;rcases dX.1 hx with hx|hx
 ·exact ON (by decide) _ x hx
 rcases dX.1 hx with hx|hx
 ·exact ON (by decide) _ x hx
 split at hx
 ·cases hx
 ·rcases dX.1 hx with hx|hx
  ·have:∀y∈([32,64]:List UInt8),y≠10:=(by decide);exact this x hx
  ·exact zd _ x hx
theorem V6(os i)(e:Int):nl (rD.IJ os i e)=1:=by
 unfold rD.IJ;rw[C5,C5,show nl (rD.dg e)=0 from Yn (λx hx=>zd _ x hx),show nl [10]=1 from rfl];split
 ·rw[Yn (Ry _)]
 ·rfl
theorem O4(os)(es:List Int):∀n,nl (rD.wI os es n)=n
 |0=>rfl
 |n+1=>by show nl (rD.wI os es n++rD.IJ os n _)=_;rw[C5,O4 os es n,V6]
theorem Rk{l:List UInt8}{i:Nat}{x:UInt8}(h:l[i]?=some x):nl (l.take (i+1))=nl (l.take i)+(if x=10 then 1 else 0):=by
 rw[lC,h,C5];show _+List.count 10 [x]=_;rw[List.count_singleton];by_cases e:x=10
 ·rw[e];simp
 ·rw[aw e,aw (by simpa using e)]
theorem Rl(l:List UInt8)(i:Nat):nl (l.take i)≤i:=kH (List.count_le_length ..) (by rw[fU];omega)
structure wO(o:Ou):Prop where
 a:∀s∈o.qY,rD.mN s
 b:∀s∈o.dr,rD.mN s
 w:0≤o.wd∧o.wd<18446744073709551616
theorem oC:wO eZ:=⟨(λ_ h=>nomatch h),(λ_ h=>nomatch h),(by decide:(0:Int)≤0∧(0:Int)<18446744073709551616)⟩
theorem Yy{s:Sg}{i:Nat}(hk:sK s=(i:Int))(hi:i<8)(h:lJ.mN s):rD.mN s:=⟨by show sK s<_;omega,h.fr,by have:=h.ln;show lI s<_;omega⟩
theorem Yk(hu:iM u):U (lq u.ks).1.1:=by
 cases hk:u.ks with
 |nil=>exact bh 0
 |cons k l=>
  obtain⟨i,f,hf,_,_,he⟩:=(hu.ks k).1 (by rw[hk];exact na ..);have hF:=(hu.fl i f hf).2;show U k.1;rw[he];show U (cC f);unfold cC;split
  ·exact hF.nx
  ·rename_i s _ hs;split
   ·exact(hF.sg s (by rw[hs];exact na ..)).2.st
   ·exact hF.nx
theorem RC{k:Int}(hv:jp k v):wO (fx v eZ).1:=by
 have hq:=Lb.Gx hv.q hv.un (qA.v8 hv);unfold fx;rcases La.VJ hv.q hv.un (qA.v8 hv)with⟨h1,_⟩|⟨i,s,h1,⟨h2,h3⟩,h4⟩
 ·obtain⟨u,hu⟩:∃u,gU v.q v.af (b_ v.so)=(none,u):=⟨_,sA h1 rfl⟩;rw[hu]at hq⊢;have hm:=Yk hq;unfold U at hm;dsimp only;split
  ·refine⟨(λ_ h=>nomatch h),(λ_ h=>nomatch h),?_⟩;show 0≤(if 1>(lq u.ks).1.1 then 1 else(lq u.ks).1.1)∧(if 1>(lq u.ks).1.1 then 1 else(lq u.ks).1.1)<_;have hm:0≤(lq u.ks).1.1∧(lq u.ks).1.1<18446744073709551616:=hm;split<;>omega
  ·exact oC
 ·obtain⟨u,hu⟩:∃u,gU v.q v.af (b_ v.so)=(some s,u):=⟨_,sA h1 rfl⟩;rw[hu];refine⟨λx hx=>?_,(λ_ h=>nomatch h),(by decide:(0:Int)≤0∧(0:Int)<18446744073709551616)⟩;rw[gH.1 hx];have h5:=h4 i;rw[aF rfl]at h5;cases hf:v.q.fl i with
  |none=>rw[hf]at h5;cases h5
  |some f=>
   rw[hf]at h5;have h5:f.sg=[s]++_:=h5;exact Yy h2 h3 ((hv.q.fl i f hf).2.sg s (by rw[h5];simp)).2
theorem Mn{k:Int}(hv:jp k v)(i:Int):∀s∈(cz v.q i).1,rD.mN s:=by
 unfold cz;split
 ·exact λ_ h=>nomatch h
 ·split
  ·exact λ_ h=>nomatch h
  ·rename_i f hf;intro s hs;have hF:=hv.q.fl _ f hf;have hs:=hF.2.sg s hs;exact Yy hs.1 hF.1 hs.2
theorem Mt(l o a)(ho:wO o)(ha:∀s∈a,rD.mN s):wO (dj l o a).1:=by
 induction a generalizing l o with
 |nil=>exact ho
 |cons x a ih=>
  refine ih (cj l o x 5).2 (cj l o x 5).1 ⟨ho.a,λs hs=>?_,ho.w⟩ λs hs=>ha s (mz _ hs);rcases dX.1 hs with hs|hs
  ·exact ho.b s hs
  ·rw[gH.1 hs];exact ha x (na ..)
theorem IX{k i af:Int}(hi:i<9223372036854775808)(hn:U af):∀(n:Nat) (s:Pm),yN k i s→wO s.o→wO (lY i af n s).o
 |0,s,_,h=>h
 |n+1,s,hs,h=>by
  unfold lY;split
  ·exact h
  ·rename_i he;have he:(cm s.v af).1.2=0:=by simpa using he
   have hw:=A2.wE hs.v hn he;have hg:=A2.yJ hs.v hn he;have hok:=(A2.vn hs hn he).1;have ho:wO (enter i af s).1.o:=by
    unfold enter;dsimp only;split
    ·exact h
    ·refine⟨h.a,λx hx=>?_,h.w⟩;rcases dX.1 hx with hx|hx
     ·exact h.b x hx
     ·rw[gH.1 hx];have h1:=hw.id;have h2:=hw.n;rw[hs.id]at h1;refine⟨by rw[h1];exact hi,hg.1,?_⟩;have h2:(cm s.v af).1.1.2.2.1≤65536:=h2.2;omega
   split
   ·exact IX hi hn n _ hok ho
   ·exact ho
theorem X2{k:Int}(hv:jp k v)(hk:k<1000000)(d)(xs:List (Int×Int)):wO (nj v d xs).1.1:=by
 unfold nj;split
 ·exact oC
 show wO (dQ v d xs).2.1;unfold dQ;split
 ·exact oC
 split
 ·exact RC hv
 split
 ·exact oC
 split
 ·show wO (iI v d xs eZ).2.1;unfold iI;split
  ·exact oC
  rename_i hr;have hr:0≤dS d∧dS d<8:=Ad.1 hr;split
  ·split<;>exact oC
  ·rename_i x hx;split
   ·exact oC
   split
   ·exact Mt _ _ _ oC (Mn hv _)
   split
   ·obtain⟨hxv,hxd,_⟩:=hv.so _ x hx;obtain⟨a,b⟩:=D2.pq hxv hk hv.un d xs;exact IX (k:=k+1) (i:=((dS d).toNat:Int)) (by omega) hv.un _ ⟨(dy x v.af d xs).2,v.q,v.l,eZ⟩ ⟨a,b.trans hxd,hv.q⟩ oC
   ·exact oC
 ·exact oC
theorem VK(v d)(xs:List (Int×Int)):(nj v d xs).1.2<9223372036854775808:=by
 have hm:(ib v.af (dA d)).1<100:=by unfold ib;(repeat' split)<;>(first|(show(3:Int)<100;decide)|(show(4:Int)<100;decide)|(show(0:Int)<100;decide))
 have hs:(pI v.q (dC d)).1<100:=by unfold pI;split<;>(first|(show(0:Int)<100;decide)|(show(13:Int)<100;decide))
 have ht:∀x:Sk,(dy x v.af d xs).1<100:=by
  intro x;unfold dy;split
  ·unfold eC.eG eX.AZ;(repeat' split)<;>(first|(show(1:Int)<100;decide)|(show(5:Int)<100;decide)|(show(0:Int)<100;decide))
  split
  ·unfold ny.nP;split<;>(first|(show(0:Int)<100;decide)|(show(11:Int)<100;decide))
  split
  ·show(0:Int)<100;decide
  ·unfold eC.cv;split<;>(first|(show(1:Int)<100;decide)|(show(0:Int)<100;decide))
 have h:(dQ v d xs).1<100:=by
  unfold dQ;split
  ·exact hm
  split
  ·show(0:Int)<100;decide
  split
  ·unfold qT;split
   ·show(0:Int)<100;decide
   ·exact hs
  split
  ·unfold iI;split
   ·show(8:Int)<100;decide
   split
   ·split
    ·show(0:Int)<100;decide
    ·show(10:Int)<100;decide
   ·rename_i x _;split
    ·show(9:Int)<100;decide
    split
    ·show(0:Int)<100;decide
    split
    ·show(0:Int)<100;decide
    ·exact ht x
  ·show(12:Int)<100;decide
 unfold nj;split
 ·show(dQ v d xs).1<_;omega
 ·show(0:Int)<_;decide
theorem IV(hc:yq c)(hd:∀p∈ps,H_ p.1):∀j:Nat,j≤1000→j≤ps.length→∀o∈mZ (eF c) ps j,wO o
 |0,_,_=>λ_ h=>by cases h
 |j+1,h1,h2=>λo ho=>by
  rcases dX.1 ho with ho|ho
  ·exact IV hc hd j (by omega) (by omega) o ho
  ·rw[gH.1 ho];exact X2 (wj hc hd j (by omega) (by omega)) (by omega) _ _
theorem EJ(v ps):∀j:Nat,∀e∈fS v ps j,e<9223372036854775808
 |0=>λ_ h=>by cases h
 |j+1=>λe he=>by
  rcases dX.1 he with he|he
  ·exact EJ v ps j e he
  ·rw[gH.1 he];exact VK _ _ _
def op(p:om.DX):Lq:=(om.dv p,om.ds p.1)
theorem Wc(ps:List om.DX):(ps.map op).map Prod.fst=ps.map om.dv:=by rw[Ak];rfl
theorem Yo{xs:List Int}(hx:om.To xs)(hu:Xt.Cs xs ps):∀p∈ps,om.WW p.1:=λp hp=>by
 have:p.1∈ps.map Prod.fst:=List.mem_map_of_mem hp;rw[hu]at this;obtain⟨i,_,h⟩:=ma.1 this;rw[←h];exact om.HT hx i
theorem Yq(h:om.WW p.1):H_ (op p).1:=by
 have hc:=h.c;have hd:=h.d;have he:=h.e;refine⟨?_,?_,?_,?_,?_⟩
 ·show p.1.2.2.1*100<_;omega
 ·show 0≤p.1.2.2.2.1*1000+p.1.2.2.2.2.1∧p.1.2.2.2.1*1000+p.1.2.2.2.2.1<_;omega
 ·show 0≤p.1.2.2.2.1*100000000+p.1.2.2.2.2.1*1000000∧p.1.2.2.2.1*100000000+p.1.2.2.2.2.1*1000000<_;omega
 ·show(0:Int)≤10000000000;decide
 ·show 0≤p.1.2.2.2.1*10000∧p.1.2.2.2.1*10000<_;omega
theorem QN(v x y z)(xs:List (Int×Int)):nj v (om.dd x y) xs=nj v (om.dd x z) xs:=rfl
theorem X1(v)(h:p.1=q.1):nj v (op p).1 (op p).2=nj v (op q).1 (op q).2:=by
 unfold op om.dv;rw[h];exact QN v q.1 p.2 q.2 _
theorem I3(v){ps qs:List om.DX}(h:ps.map Prod.fst=qs.map Prod.fst):∀j,kO v (ps.map op) j=kO v (qs.map op) j∧mZ v (ps.map op) j=mZ v (qs.map op) j∧fS v (ps.map op) j=fS v (qs.map op) j
 |0=>⟨rfl,rfl,rfl⟩
 |j+1=>by
  obtain⟨h1,h2,h3⟩:=I3 v h j;have e:nj (kO v (ps.map op) j) (uG (ps.map op) j).1 (uG (ps.map op) j).2=nj (kO v (qs.map op) j) (uG (qs.map op) j).1 (uG (qs.map op) j).2:=by
   rw[h1];unfold uG;rw[lB,lB,kV,kV];have:=dm (λl=>l[j]?) h;simp only[kV]at this;cases hp:ps[j]? with
   |none=>cases hq:qs[j]? with
    |none=>rfl
    |some q=>rw[hp,hq]at this;cases this
   |some p=>cases hq:qs[j]? with
    |none=>rw[hp,hq]at this;cases this
    |some q=>
     rw[hp,hq]at this;exact X1 _ (kG this)
  refine⟨?_,?_,?_⟩
  ·show(nj (kO v (ps.map op) j) _ _).2=_;rw[e];rfl
  ·show mZ v (ps.map op) j++[(nj (kO v (ps.map op) j) (uG (ps.map op) j).1 (uG (ps.map op) j).2).1.1]=_;rw[e,h2];rfl
  ·show fS v (ps.map op) j++[(nj (kO v (ps.map op) j) (uG (ps.map op) j).1 (uG (ps.map op) j).2).1.2]=_;rw[e,h3];rfl
def ot(x:OR):Cp.OT:=(x.1,x.2.qY,x.2.dr)
theorem We(rs:List OR):(rs.map ot).map Prod.fst=rs.map Prod.fst:=by rw[Ak];rfl
theorem SW{rs:List OR}(h:∀x∈rs,x.1.2.2.2=x.2.wd):(rs.map ot).map Cp.nW=(rs.map Prod.snd).map λo=>(o.qY,o.dr,o.wd):=by
 rw[Ak,Ak];refine List.map_congr_left λx hx=>?_;show(x.2.qY,x.2.dr,x.1.2.2.2)=_;rw[h x hx];rfl
theorem SX{rs:List OR}{os:List Ou}(hs:rs.map Prod.snd=os)(ho:∀o∈os,wO o∧Sx o)(h:∀x∈rs,x.1.2.2.2=x.2.wd):∀p∈rs.map ot,rD.Su (Cp.nW p):=λp hp=>by
 obtain⟨x,hx,rfl⟩:=ma.1 hp;obtain⟨h1,h2⟩:=ho x.2 (by rw[←hs];exact List.mem_map_of_mem hx);have ha:=h2.a;have hb:=h2.b;exact⟨h1.a,h1.b,by show 0≤x.1.2.2.2∧x.1.2.2.2<_;rw[h x hx];exact h1.w,by show x.2.qY.length≤_;omega,by show x.2.dr.length≤_;omega⟩
theorem II(r:Sl)(rs:List OR)[t:Rd r F gn (rs.map Prod.fst)](hx:∀x∈rs,Rd x.1.1 F KS x.2.qY∧Rd x.1.2.1 F KS x.2.dr):rj (Cp.zM r (rs.map ot)) F:=by
 unfold Cp.zM;rw[We];refine oc _ _ _ (b:=zz λp hp=>?_);obtain⟨x,hm,rfl⟩:=ma.1 hp;obtain⟨r1,r2⟩:=hx x hm;exact inferInstanceAs (rj (aZ x.1.1 KS x.2.qY^aZ x.1.2.1 KS x.2.dr) F)
end ScV

namespace ScY
open bK bp fh lJ mh fe xQ A1 yM qA A2 Cm D2 K9 K_ La Pq Ln Tp W4 Xu YW Zu ScV
theorem WI{i:Int}{K:Int→WP}(h0:0≤i)(hx:l[i.toNat]?=some x)(k:K x.toNat w):TE (rD.bA l) i K w:=by
 obtain⟨hl,he⟩:=ie.1 hx;refine⟨x,⟨h0,?_⟩,k⟩;rw[getElem?_pos (rD.bA l) i.toNat (by show i.toNat<(rD.bA l).size;rw[rD.nQ];exact hl)];exact dm some he
theorem Yh(r:Sl)(ps:List om.DX)[t:Rd r F KD (ps.map om.dv)](h:∀p∈ps,Rd p.2 F KR (om.ds p.1)):rj (nU r (ps.map op)) F:=by
 haveI:Rd r F KD ((ps.map op).map Prod.fst):=by rw[Wc];exact t
 refine M6 r (ps.map op) λp hp=>?_;obtain⟨q,hq,rfl⟩:=ma.1 hp;exact h q hq
theorem Nw{ps:List om.DX}(h:∀p∈ps,om.WW p.1):(∀p∈ps.map op,H_ p.1)∧∀p∈ps.map op,p.2.length≤4294967296:=by
 refine⟨λp hp=>?_,λp hp=>?_⟩<;>obtain⟨q,hq,rfl⟩:=ma.1 hp
 ·exact Yq (h q hq)
 ·show(om.ds q.1).length≤_;unfold om.ds;split<;>simp
theorem JE(b:Sl)(z:List Int)(hb:b.len≤b.cap)(hz:om.To z):bx (c4 b) (D_.Zh^aZ b om.K8 z) (λr=>br (r=true) bg):=
  bF λw0 S R h=>by
    have h:au w0 S R w0 (yg.kX true^aZ b om.K8 z):=h;have hbl:=((h.take (aZ b om.K8 z)).rd (s:=b)).2;refine ae (λc=>?_) λc=>?_
    · refine Ji WZ.BA h λr w h=>?_
      obtain⟨hr,h⟩:=h.aP;exact au.aH hr h.h_
    have c:¬((b.len:Nat):Int)>700:=cd c;have hl:z.length≤700:=(by omega);refine xO (Xt.ze b z hb hz (by omega)) h inferInstance λr2 w h=>?_;obtain⟨ps,h⟩:=h.lS;obtain⟨⟨hu,hn⟩,h⟩:=h.aP;have h:=WZ.xd h;have hpl:ps.length≤300:=(by rw[hn];unfold om.nD;omega);have hr2:=((h.take (aQ r2 om.KD (ps.map om.dv))).rd (s:=r2)).2;rw[fy]at hr2;refine Ji om.uQ h λr3 w h=>?_;obtain⟨hr3,h⟩:=h.aP;rw[hr3];have h:au w0 S R w (aQ r2 KD (ps.map om.dv)^rl om.sO ps^yg.kX true^aZ b om.K8 z):=h.drop;have okp:=Nw (Yo hz hu);have hml:(ps.map op).length=ps.length:=(by rw[fy]);refine xO (OG A3.pE A3.xr A3.vT r2 (ps.map op) (by omega) okp.1 okp.2) h (Yh r2 ps λp hp=>by haveI:=om.S6 hp;infer_instance) λr4 w h=>?_;obtain⟨rs,h⟩:=h.lS;obtain⟨hrs,h⟩:=h.aP;rw[hml]at hrs h;obtain⟨es,hes⟩:∃es,es=fS (eF A3.pE) (ps.map op) ps.length:=⟨_,rfl⟩;obtain⟨os,hos⟩:∃os,os=mZ (eF A3.pE) (ps.map op) ps.length:=⟨_,rfl⟩;rw[←hes]at h;rw[←hos]at hrs;have hel:es.length=ps.length:=(by rw[hes,vo]);have hes9:∀e∈es,e<9223372036854775808:=(by rw[hes];exact EJ _ _ _);have hok:∀o∈os,wO o∧Sx o:=by
      rw[hos];exact λo ho=>⟨IV A3.vT okp.1 _ (by omega) (by omega) o ho,Fg A3.vT okp.1 _ (by omega) (by omega) o ho⟩
    have h:au w0 S R w (aQ r4.1 gn (rs.map Prod.fst)^aQ r4.2 KI es^rl oR rs^yg.kX true^aZ b om.K8 z):=au.aK (F:=(aQ r4.1 gn (rs.map Prod.fst)^aQ r4.2 KI es^rl oR rs)^aQ r2 KD (ps.map om.dv)^rl om.sO ps^yg.kX true^aZ b om.K8 z) h;have hwr:=NC (rs:=rs) h;have t1:=Cp.FU true r4.1 r4.2 (rs.map ot) es (SX hrs hok hwr) hes9 (by omega) (λe=>by cases e);rw[SW hwr,hrs]at t1;refine xO t1 h (oc _ _ _ (b:=oc _ _ _ (a:=II r4.1 rs λx hx=>by
      obtain⟨q1,q2,_⟩:=S5 hx;exact⟨inferInstance,inferInstance⟩))) λr5 w h=>?_
    obtain⟨hr5,h⟩:=h.aP;obtain⟨T,hT⟩:∃T,T=rD.YJ (os.map λo=>(o.qY,o.dr,o.wd)) es:=⟨_,rfl⟩;rw[←hT]at hr5;rw[hr5];have hTl:T.length≤12800043*es.length:=by
      rw[hT];refine rD.wz (λo ho=>?_) (λe he=>by have:=hes9 e he;omega) es.length;obtain⟨x,hx,rfl⟩:=ma.1 ho;obtain⟨h1,h2⟩:=hok x hx;have ha:=h2.a;have hb:=h2.b;exact⟨h1.a,h1.b,h1.w,by show x.qY.length≤_;omega,by show x.dr.length≤_;omega⟩
    have hTn:nl T=ps.length:=(by rw[hT,←hel];exact O4 _ _ _);have h:au w0 S R w (aZ b om.K8 z):=h.aK;refine Ji om.uO h λr6 w h=>?_;obtain⟨hr6,h⟩:=h.aP;rw[hr6];have h:=h.drop;refine xO (Zt.FF b z hz (by omega)) h inferInstance λr7 w h=>?_;obtain⟨qs,h⟩:=h.lS;obtain⟨⟨hv,hm⟩,h⟩:=h.aP;have h:=WZ.xd h;have h:au w0 S R w (aQ r7 KD (qs.map om.dv)^rl om.sO qs):=h.aK;have hpq:ps.map Prod.fst=qs.map Prod.fst:=(by rw[hu,hv,hn,hm]);have hql:qs.length=ps.length:=(by rw[hn,hm]);have okq:=Nw (Yo hz hv);have hmq:(qs.map op).length=ps.length:=(by rw[fy,hql]);refine xO (KK A3.pE A3.xr A3.vT r7 (qs.map op) (by omega) okq.1 okq.2) h (Yh r7 qs λp hp=>by haveI:=om.S6 hp;infer_instance) λr8 w h=>?_;obtain⟨ts,h⟩:=h.lS;obtain⟨hts,h⟩:=h.aP;obtain⟨_,ho2,he2⟩:=I3 (eF A3.pE) hpq ps.length;rw[hmq]at hts h;rw[←ho2,←hos]at hts;rw[←he2,←hes]at h;have h:au w0 S R w (aQ r8.1 gn (ts.map Prod.fst)^aQ r8.2 KI es^rl oR ts):=au.aK (F:=(aQ r8.1 gn (ts.map Prod.fst)^aQ r8.2 KI es^rl oR ts)^aQ r7 KD (qs.map om.dv)^rl om.sO qs) h;refine cZ (λ_:Int×Int=>aQ r8.1 gn (ts.map Prod.fst)^aQ r8.2 KI es^rl oR ts) (λy:Int×Int=>(0≤y.2∧y.2≤T.length)∧y.1=(nl (T.take y.2.toNat):Nat)) (λy:Int×Int=>T.length-y.2.toNat) h ⟨⟨ig 0,by show(0:Int)≤_;omega⟩,rfl⟩ ?_;rintro(⟨n,i⟩:Int×Int) w ⟨⟨i0,i1⟩,hnl⟩ h;dsimp only at i0 i1 hnl h⊢;rw[rD.nQ];refine ae (λc=>?_) λc=>?_
    · have c:i<((T.length:Nat):Int):=bZ c
      have hi:i.toNat<T.length:=(by omega);obtain⟨x,hx⟩:∃x,T[i.toNat]? =some x:=⟨_,bV hi⟩;have hst:=Rk hx;have hnt:=Rl T i.toNat;have ei:(i+1).toNat=i.toNat+1:=(by omega);refine WI i0 hx ?_;rw[fu (n:=i+1),fu (n:=n+1)];refine ae (λcx=>?_) λcx=>?_
      · have e:x=10:=UInt8.toNat_inj.1 (by
         have cx:((x.toNat:Nat):Int)=10:=(by simpa using cx);show x.toNat=10;omega)
        rw[aF e]at hst;exact⟨⟨⟨⟨by show 0≤i+1;omega,by show i+1≤_;omega⟩,by show n+1=((nl (T.take (i+1).toNat):Nat):Int);rw[ei,hst,hnl];omega⟩,h⟩,by show T.length-(i+1).toNat<T.length-i.toNat;omega⟩
      · have e:¬x=10:=λe=>by rw[e]at cx;exact absurd cx (by decide)
        rw[aw e]at hst;exact⟨⟨⟨⟨by show 0≤i+1;omega,by show i+1≤_;omega⟩,by show n=((nl (T.take (i+1).toNat):Nat):Int);rw[ei,hst,hnl];omega⟩,h⟩,by show T.length-(i+1).toNat<T.length-i.toNat;omega⟩
    · have c:¬i<((T.length:Nat):Int):=cd c
      rw[kF (by omega),hTn]at hnl;have hwt:=NC (rs:=ts) h;refine Ji WZ.BA h λr12 w h=>?_;obtain⟨hr12,h⟩:=h.aP;have h:=h.drop;refine ae (λ_=>?_) λc=>by rw[hr12]at c;cases c
      have t2:=ScD.KT r8.1 r8.2 (ts.map ot) es (SX hts hok hwt) hes9 (by omega);rw[SW hwt,hts,←hT]at t2;refine xO t2 h (oc _ _ _ (a:=II r8.1 ts λx hx=>by
        obtain⟨q1,q2,_⟩:=S5 hx;exact⟨inferInstance,inferInstance⟩)) λr13 w h=>?_
      obtain⟨hr13,h⟩:=h.aP;exact au.aH (by rw[hr13,hnl,hr2];simp) h.h_
end ScY

end Go.X
