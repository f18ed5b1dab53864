/- Contracts. -/
import Derived.Test.YtniflenfpbbikaaGreatDoorB7
set_option linter.all false
set_option autoImplicit true
set_option relaxedAutoImplicit true
namespace Go.X
open IntKind (u64 i64)
open Go.Proofs
namespace WV
open bH bp fL Ij lL lN Jz xH
abbrev mB(X:Cx)(c:Cf)(r:Nat→RF)(t:Nat→Bool)(a b:Sl):List Lf:=eB X c r t++.sl a::aY b::mA X
section
variable (X:Cx) (c:Cf) (r:Nat→RF) (t:Nat→Bool) (a b:Sl) {i:Nat} (hi:i<8)
include hi
theorem SQ:Ks.un [.int .i64] (((mB X c r t a b).drop (68+i*8+7)).take 1)=some (tO (X.k i)):=by
 have:i=0∨i=1∨i=2∨i=3∨i=4∨i=5∨i=6∨i=7:=by omega
 rcases this with rfl|rfl|rfl|rfl|rfl|rfl|rfl|rfl<;>rfl
theorem XD(x:Int):dE (mB X c r t a b) (68+i*8) [aE x]=mB {X with k:=gZ X.k i (x,(X.k i).2)} c r t a b:=by
 have:i=0∨i=1∨i=2∨i=3∨i=4∨i=5∨i=6∨i=7:=by omega
 rcases this with rfl|rfl|rfl|rfl|rfl|rfl|rfl|rfl<;>rfl
theorem SO(x:Int):dE (mB X c r t a b) (68+i*8+7) [aE x]=mB {X with k:=gZ X.k i (wait (X.k i) x)} c r t a b:=by
 have:i=0∨i=1∨i=2∨i=3∨i=4∨i=5∨i=6∨i=7:=by omega
 rcases this with rfl|rfl|rfl|rfl|rfl|rfl|rfl|rfl<;>rfl
theorem Yg:Ks.un [.ptr] (((mB X c r t a b).drop (0+132+i*1)).take 1)=some (X.p i):=by
 have:i=0∨i=1∨i=2∨i=3∨i=4∨i=5∨i=6∨i=7:=by omega
 rcases this with rfl|rfl|rfl|rfl|rfl|rfl|rfl|rfl<;>rfl
theorem Yh(x:bO):dE (mB X c r t a b) (0+132+i*1) [.ptr x]=mB {X with p:=gZ X.p i x} c r t a b:=by
 have:i=0∨i=1∨i=2∨i=3∨i=4∨i=5∨i=6∨i=7:=by omega
 rcases this with rfl|rfl|rfl|rfl|rfl|rfl|rfl|rfl<;>rfl
end
def OV(c:Ct)(f:Nat)(x:Int):Ct:=
 if f=0 then(c.1,x,c.2.2.1,c.2.2.2.1,c.2.2.2.2.1,c.2.2.2.2.2.1,c.2.2.2.2.2.2.1,c.2.2.2.2.2.2.2)
 else if f=1 then(c.1,c.2.1,x,c.2.2.2.1,c.2.2.2.2.1,c.2.2.2.2.2.1,c.2.2.2.2.2.2.1,c.2.2.2.2.2.2.2)
 else if f=2 then(c.1,c.2.1,c.2.2.1,x,c.2.2.2.2.1,c.2.2.2.2.2.1,c.2.2.2.2.2.2.1,c.2.2.2.2.2.2.2)
 else if f=3 then(c.1,c.2.1,c.2.2.1,c.2.2.2.1,x,c.2.2.2.2.2.1,c.2.2.2.2.2.2.1,c.2.2.2.2.2.2.2)
 else if f=4 then(c.1,c.2.1,c.2.2.1,c.2.2.2.1,c.2.2.2.2.1,x,c.2.2.2.2.2.2.1,c.2.2.2.2.2.2.2)
 else(c.1,c.2.1,c.2.2.1,c.2.2.2.1,c.2.2.2.2.1,c.2.2.2.2.2.1,x,c.2.2.2.2.2.2.2)
theorem S4(h:f<6):f=0∨f=1∨f=2∨f=3∨f=4∨f=5:=by omega
theorem P4(c){f:Nat}(h:f<6):ux c f=OV c f (inc (XP c f)):=by rcases S4 h with rfl|rfl|rfl|rfl|rfl|rfl<;>rfl
theorem XC(X c r t a b)(hi:i<8)(hf:f<6):Ks.un [.int .i64] (((mB X c r t a b).drop (68+i*8+1+f*1)).take 1)=some (XP (X.k i) f):=by
 have:i=0∨i=1∨i=2∨i=3∨i=4∨i=5∨i=6∨i=7:=by omega
 rcases this with rfl|rfl|rfl|rfl|rfl|rfl|rfl|rfl<;>rcases S4 hf with rfl|rfl|rfl|rfl|rfl|rfl<;>rfl
theorem XE(X c r t a b)(hi:i<8)(hf:f<6)(x:Int):dE (mB X c r t a b) (68+i*8+1+f*1) [aE x]=mB {X with k:=gZ X.k i (OV (X.k i) f x)} c r t a b:=by
 have:i=0∨i=1∨i=2∨i=3∨i=4∨i=5∨i=6∨i=7:=by omega
 rcases this with rfl|rfl|rfl|rfl|rfl|rfl|rfl|rfl<;>rcases S4 hf with rfl|rfl|rfl|rfl|rfl|rfl<;>rfl
theorem H9(l:Nat→α)(i:Nat)(x y:α):gZ (gZ l i x) i y=gZ l i y:=by
 funext j
 by_cases e:j=i
 ·rw[e,fu,fu]
 ·rw[ki _ _ e,ki _ _ e,ki _ _ e]
def nG(k:Nat→Ct)(s f:Int):Nat→Ct:=
 if s<0∨s≥8 then k else if f<0∨f≥6 then k else if f≠0∧tO (k s.toNat)=0 then k else gZ k s.toNat (s,(iP (k s.toNat) f).2.2)
def KL(k l:Nat→Ct):Prop:=∀i,(k i).2=(l i).2
theorem KL.note(h:KL k l)(s f:Int):KL (nG k s f) (gx l s f).2:=by
 unfold nG gx;by_cases hs:s<0∨s≥8
 ·rw[aG hs,aG hs];exact h
 ·rw[ay hs,ay hs];have hi:=h s.toNat;have hn:(iP (k s.toNat) f).2.2=(iP (l s.toNat) f).2.2:=by
   generalize k s.toNat=x at hi⊢;generalize l s.toNat=y at hi⊢;obtain⟨x1,x2⟩:=x;obtain⟨y1,y2⟩:=y;cases hi;unfold iP ux;simp only[wait]
   (repeat' split)<;>rfl
  have same:(iP (l s.toNat) f).2=l s.toNat→KL k (gZ l s.toNat (iP (l s.toNat) f).2):=λe=>by rw[e,Pd];exact h
  by_cases hf:f<0∨f≥6
  ·rw[aG hf];exact same (by unfold iP;rw[aG hf])
  ·rw[ay hf];by_cases hw:f≠0∧tO (k s.toNat)=0
   ·rw[aG hw];refine same ?_;unfold iP;rw[ay hf,ay hw.1,aG (by rw[←hw.2];show(l s.toNat).2.2.2.2.2.2.2=(k s.toNat).2.2.2.2.2.2.2;rw[hi])]
   ·rw[ay hw];intro j;show(gZ k s.toNat _ j).2=(gZ l s.toNat _ j).2;by_cases e:j=s.toNat
    ·rw[e,fu,fu];exact hn
    ·rw[ki _ _ e,ki _ _ e];exact h j
theorem tz(b X v)(s f:Int):bu (VG (some ⟨b,68⟩) s f) (cM b X v) (λ_=>cM b {X with k:=nG X.k s f} v):=
  bC λw0 S R h=>by
    refine ae (λc=>?_) λc=>?_
    · have c:s<0∨s≥8:=cC
      rw[show nG X.k s f=X.k by unfold nG;rw[aG c]];exact h
    have hs:¬(s<0∨s≥8):=cC;clear c;refine ae (λc=>?_) λc=>?_
    · have c:f<0∨f>5:=cC
      rw[show nG X.k s f=X.k by unfold nG;rw[ay hs,aG (by omega)]];exact h
    have hf:¬(f<0∨f>5):=cC;clear c;obtain⟨i,hi⟩:∃i:Nat,s=(i:Int):=⟨s.toNat,by omega⟩;obtain⟨g,hg⟩:∃g:Nat,f=(g:Int):=⟨f.toNat,by omega⟩;have hi8:i<8:=(by omega);have hg6:g<6:=(by omega);obtain⟨r,t,hq,h⟩:=(h.le (aJ _)).cM b X v;obtain⟨s1,s2,h⟩:=h.kv b X (eB X v.c r t) v.lv;refine ac ⟨by omega,?_⟩;rw[hi,hg];simp only[eX];have back:∀{w:World} (k:Nat→Ct),au w0 S R w (af b (mB {X with k:=k} v.c r t s1 s2)^aS s1 KI v.lv.1^aS s2 KI v.lv.2^eD (rJ r (fT v)) 8^bg)→k=nG X.k i g→au w0 S R w (cM b {X with k:=nG X.k i g} v):=λ{w} k h e=>by
      rw[←e];have h:=h.dW b {X with k:=k} (eB {X with k:=k} v.c r t) s1 s2 v.lv;exact(h.gn b {X with k:=k} v r t hq).aI
    refine aQ h (λ_=>af b (mB X v.c r t s1 s2)^aS s1 KI v.lv.1^aS s2 KI v.lv.2^eD (rJ r (fT v)) 8^bg) (λ_=>¬(g≠0∧tO (X.k i)=0)) (λ_ w hc h=>?_) ?_
    · refine ac (aA h b (mB {X with k:=gZ X.k i ((i:Int),(X.k i).2)} v.c r t s1 s2) rfl (iY (by show 68+i*8+1≤140;omega)) (XD X v.c r t s1 s2 hi8 _) λw h=>?_)
      obtain⟨k1,hk1⟩:∃k1,k1=gZ X.k i ((i:Int),(X.k i).2):=⟨_,rfl⟩;rw[←hk1]at h;have hk1i:k1 i=((i:Int),(X.k i).2):=by rw[hk1,fu]
      refine aM h λw h=>ac (ac ⟨by omega,ah h (XC {X with k:=k1} v.c r t s1 s2 hi8 hg6) ⟨by omega,?_⟩⟩);refine aA h b (mB {X with k:=gZ X.k i (OV (k1 i) g (inc (XP (k1 i) g)))} v.c r t s1 s2) rfl (iY (by show 68+i*8+1+g*1+1≤140;omega)) (by rw[XE {X with k:=k1} v.c r t s1 s2 hi8 hg6,hk1,H9]) λw h=>?_;rw[←P4 (k1 i) hg6,hk1i]at h;have hnk:∀x:Ct,x=((i:Int),(iP (X.k i) g).2.2)→gZ X.k i x=nG X.k i g:=λx hx=>by
        unfold nG;rw[ay (by omega),ay (by omega),eX,ay (by omega),hx]
      have hn1:iP (X.k i) g=if g=0 then(0,ux (wait (X.k i) (inc (tO (X.k i)))) g)else(0,ux (wait (X.k i) (dec (tO (X.k i)))) g):=by
        unfold iP;rw[ay (by omega)];by_cases e:g=0
        · rw[aG (by omega),aG e]
        · rw[ay (by omega),ay (λx=>hc ⟨e,x⟩),ay e]
      have hw7:∀y:Int,wait (ux ((i:Int),(X.k i).2) g) y=((i:Int),(ux (wait (X.k i) y) g).2):=λy=>by rcases S4 hg6 with rfl|rfl|rfl|rfl|rfl|rfl<;>rfl
      have hc7:tO (ux ((i:Int),(X.k i).2) g)=tO (X.k i):=(by rcases S4 hg6 with rfl|rfl|rfl|rfl|rfl|rfl<;>rfl);obtain⟨k2,hk2⟩:∃k2,k2=gZ X.k i (ux ((i:Int),(X.k i).2) g):=⟨_,rfl⟩;rw[←hk2]at h;have hk2i:k2 i=ux ((i:Int),(X.k i).2) g:=(by rw[hk2,fu]);have hl:=SQ {X with k:=k2} v.c r t s1 s2 hi8;dsimp only at hl;rw[hk2i,hc7]at hl;refine ae (λc=>?_) λc=>?_
      · have c:g=0:=by
         have c:(g:Int)=0:=cC;omega
        refine ac (ah h hl (ac (aA h b (mB {X with k:=gZ X.k i (wait (k2 i) (inc (tO (X.k i))))} v.c r t s1 s2) rfl (iY (by show 68+i*8+7+1≤140;omega)) (by rw[SO {X with k:=k2} v.c r t s1 s2 hi8,hk2,H9]) λw h=>?_)));exact back _ h (hnk _ (by rw[hk2i,hw7,hn1,aG c]))
      · have c:¬g=0:=by
         have c:¬(g:Int)=0:=cC;omega
        refine ac (ah h hl (ac (aA h b (mB {X with k:=gZ X.k i (wait (k2 i) (dec (tO (X.k i))))} v.c r t s1 s2) rfl (iY (by show 68+i*8+7+1≤140;omega)) (by rw[SO {X with k:=k2} v.c r t s1 s2 hi8,hk2,H9]) λw h=>?_)));exact back _ h (hnk _ (by rw[hk2i,hw7,hn1,ay c]))
    · refine ae (λc=>?_) λc=>?_
      · have c:g≠0:=by
         have c:¬(g:Int)=0:=cC;omega
        refine ac (ah h (SQ X v.c r t s1 s2 hi8) (ae (λc2=>?_) λc2=>?_))
        · have c2:tO (X.k i)=0:=gK
          exact back X.k h (by unfold nG;rw[ay (by omega),ay (by omega),eX,aG ⟨by omega,c2⟩])
        · have c2:¬tO (X.k i)=0:=gK
          exact⟨λx=>c2 x.2,h⟩
      · have c:g=0:=by
         have c:(g:Int)=0:=cC;omega
        exact⟨λx=>x.1 c,h⟩
end WV

namespace Ty
open bH bp fL Ij _root_.Go.X.Tree iU kR lP ff lL lN Ej Cu xI Jx F6 LC Lt PL SB Jz PM
theorem wc(s:Sl)(rates:List Int)(i:Nat):bu (T6 s (i:Int)) (bg^aV s KU rates) (λx=>bs (x=ib rates i) bg):=
 bC λw0 S R h=>by
  have h:au w0 S R w0 (aV s KU rates^bg):=h.aI;have hs:=(h.rd (s:=s)).2;refine ae (λc=>?_) λc=>?_
  ·have c:(i:Int)<((s.len:Nat):Int):=cC;obtain⟨x,hx⟩:∃x,rates[i]?=some x:=⟨_,jx (by omega)⟩;refine bS (s:=s) h (by omega) (by omega) (dP h s i hx (by rw[eX];rfl) ?_);refine au.aH ?_ h.gm;show x=ib rates i;unfold ib;rw[hx]
  ·have c:¬(i:Int)<((s.len:Nat):Int):=cC;refine au.aH ?_ h.gm;show(18446744073709551615:Int)=ib rates i;unfold ib;rw[rj (by omega)]
theorem Ck(h:Rq u r t)(hf:u.fl i=some f)(hf':u'.fl i=some f')(hfl:∀j,j≠i→u'.fl j=u.fl j)(hpl:∀j,j≠i→fx u' j=fx u j)(x:RF)(hx:x=((i:Int),f'.cr,fx u' i,f'.nx,f'.si,mg x)):Rq u' (gq r i x) t:=⟨λq hq8=>by
  by_cases e:q=i
  ·rw[e,hf'];rw[e]at hq8;rw[h.t i hq8,hf];rfl
  ·rw[hfl q e];exact h.t q hq8,λq hq8=>by
  by_cases e:q=i
  ·rw[e,da];unfold yl;rw[hf'];exact hx
  ·rw[fR _ _ e];have:=h.r q hq8;unfold yl at this⊢;rw[hfl q e,hpl q e];exact this⟩
theorem G6(lv){i j:Int}(h:j≠i):bX (lv.1,lv.2++[i]) j=bX lv j:=by
 unfold bX;simp[h]
theorem qq(hh:(cd lv).2.2=true){i:Int}(hi:(cd lv).1=i):qP lv i 2=(fg lv).2:=by
 unfold qP fg;rw[aG rfl,aG hh,hi]
theorem qt(hh:(cd lv).2.2=true){i:Int}(hi:(cd lv).1=i){p:Int}(hp:p≠2):qP lv i p=(cy lv).2:=by
 unfold qP cy;rw[ay hp,aG hh,hi]
theorem uR(lv)(i:Int):bX (qP lv i 2) i=2:=by
 unfold qP bX dM;rw[aG rfl];simp
theorem zZ(lv)(i:Int){p:Int}(hp:p≠2):bX (qP lv i p) i=0:=by
 unfold qP;rw[ay hp];exact ma.2 (xd lv i)
theorem oA(lv){i j:Int}(p:Int)(h:j≠i):bX (qP lv i p) j=bX lv j:=by
 unfold qP;split
 ·rw[show((dM lv i).1,(dM lv i).2++[i])=((dM lv i).1,(dM lv i).2++[i])from rfl,G6 (dM lv i) h,xf lv h]
 ·exact xf lv h
theorem OX(r i)(p:Int)(xs):eD (rJ (gq r i (xe (r i) p)) xs) 8=eD (rJ r xs) 8:=im 8 λq _=>by
 show aS (mg (gq r i (xe (r i) p) q)) KS (xs q)=aS (mg (r q)) KS (xs q);by_cases e:q=i
 ·rw[e,da]
 ·rw[fR _ _ e]
abbrev np(u:Qm)(k:Key)(l:List Key):Qm:={u with ks:=l,lv:=(u.lv.1,u.lv.2++[k.2])}
theorem MD(hk:u.ks=k::l){aj:Int}(h:k.1≤aj):pI (np u k l) aj=pI u aj:=by
 show(⟨u.c,u.fl,(u.lv.1,(u.lv.2++[k.2])++(l.takeWhile λk=>decide (k.1≤aj)).map Prod.snd),l.dropWhile λk=>decide (k.1≤aj),u.n⟩:Qm)=⟨u.c,u.fl,(u.lv.1,u.lv.2++(u.ks.takeWhile λk=>decide (k.1≤aj)).map Prod.snd),u.ks.dropWhile λk=>decide (k.1≤aj),u.n⟩;rw[hk,Ax,Hg,aG Y6,aG Y6];simp
theorem Q3(hu:jv u)(hk:u.ks=k::l):jv (np u k l):=by
 obtain⟨i,f,hf,hs,hni,he⟩:=(hu.ks k).1 (by rw[hk];simp);have hi8:=(hu.fl i f hf).1;have hp:=RN (v:=u.lv) hi8 hni;have hk2:k.2=(i:Int):=by rw[he]
 have hokl:wF (u.lv.1,u.lv.2++[(i:Int)]):=by
  have:=hu.lv.push (i:Int) false;rwa[hp]at this
 have hsr:=hu.xA;rw[hk]at hsr;have hnd:=hu.xA.nodup;rw[hk]at hnd;have hin:∀j:Nat,nU (u.lv.1,u.lv.2++[(i:Int)]) j↔nU u.lv j∨j=i:=λj=>by
  unfold nU;rw[←jF,eQ,j_];exact⟨λh=>h.imp id (λe=>by omega),λh=>h.imp id (λe=>by omega)⟩
 have e:kz u.fl i (u.fl i)=u.fl:=H8 rfl;have:=hu.dE hi8 (u.fl i) (u.lv.1,u.lv.2++[(i:Int)]) l u.n hokl (λj hj=>by rw[hin];exact⟨λh=>h.elim id λe=>absurd e hj,.inl⟩) (λ_=>⟨f,hf⟩) (λg hg=>(hu.fl i g hg).2) (λq=>?_) (uc.1 hsr).2 (by omega) hu.le
 ·rw[e]at this;unfold np;rw[hk2];exact this
 ·constructor
  ·intro hq;left;refine⟨by rw[hk];exact nb _ hq,λe2=>?_⟩;have hqm:q∈u.ks:=by rw[hk];exact nb _ hq
   have:=key_inj hu hqm (b:=k) (by rw[hk];simp) (by rw[e2,hk2]);rw[this]at hq;exact(lD.1 hnd).1 hq
  ·rintro(⟨hq,hne⟩|⟨g,hg,_,hn,_⟩)
   ·rw[hk]at hq;rcases ec.1 hq with rfl|hq
    ·exact absurd hk2 hne
    ·exact hq
   ·exact absurd ((hin i).2 (.inr rfl)) hn
theorem FK(b X v)(hv:jv v)(aj:Int)(hn:U aj)(s)(rates:List Int)(hr:∀x∈rates,U x):bu (YT (some ⟨b,1⟩) aj s)
  (cM b X v^aV s KU rates) (λx=>bs (x=Bu (jW v aj rates).1) (cM b X (jW v aj rates).2)):=
 bC λw0 S R h=>by
  refine aD h λn1 w h=>?_;have h:au w0 S R w (af n1 zS^aV s KU rates^cM b X v):=h.aI;refine aQ h (λ_=>af n1 zS^aV s KU rates^cM b X (pI v aj)) (λ_=>True) (λ_ w _ h=>?_) ?_
  ·refine fY (λ(_:Unit) (u:Qm)=>af n1 zS^aV s KU rates^cM b X u) (λ_ u=>jv u∧∃k,mu u<k∧lX aj rates k u=jW v aj rates) (λ_ u=>mu u) (pI v aj) h ⟨hv.due aj,_,An _,rfl⟩ ?_;rintro K (y:Unit) u w ⟨hu,k,hk,hR⟩ h next
   have hl:=hu.lv.GH;cases k with
   |zero=>omega
   |succ k=>
   obtain⟨r,t,hq,h⟩:=h.cM b X u;refine ac (ar (G0 b X (eB X u.c r t) (1+65) rfl u.lv) h λx w h=>?_);obtain⟨hx,h⟩:=h.aP;rw[hx];cases hh:(cd u.lv).2.2 with
   |false=>
    rw[zt hh]at hR;refine ae (λ_=>?_) λc=>(by simp at c);refine az h (by rfl) λw h=>aw (b:=n1) (x:=RA) h rfl ?_;rw[←hR];exact au.aH rfl (h.gn b X u r t hq).aI
   |true=>
    refine ae (λc=>(by simp at c)) λ_=>?_;have hm:=lB hh;have hxr:=hu.lv.2 _ hm;obtain⟨i,hi⟩:∃i:Nat,(cd u.lv).1=(i:Int):=⟨(cd u.lv).1.toNat,by omega⟩;obtain⟨f,hf⟩:=hu.th i (by rw[hi]at hm;exact hm);have hA:yn u i f:=⟨hu,hi,hh,hf⟩;have hi8:=hA.lt;have hF:=(hu.fl i f hf).2;have hcr:=hF.cr;have hqq:=hu.cf.q;rw[zr hA]at hR;obtain⟨q1,q2,q3⟩:=hq.some hi8 hf;have hit:((i:Nat):Int).toNat=i:=eX i;rw[hi];refine ac ⟨by omega,?_⟩;rw[hit];obtain⟨s1,s2,h⟩:=h.kv b X (eB X u.c r t) u.lv;have hb:∀o m:Nat,o+m≤140→Nat.ble (o+m) 140=true:=λo m h=>iY h;refine ac (ah h (DQ X u.c r t s1 s2 hi8) ?_);have e1:(r i).2.1=f.cr:=by rw[q2]
    rw[e1];refine ae (λc=>?_) λc=>?_
    ·have c:f.cr≤0:=cC;rw[aG c]at hR;have hcw:i64.wrap (f.cr+cQ u.c)=f.cr+cQ u.c:=gi;refine aM h λw h=>ac (ac (ah h (DQ X u.c r t s1 s2 hi8) (ah h rfl (ac ?_))));rw[e1];rw[show i64.wrap (f.cr+cQ u.c)=f.cr+cQ u.c from hcw];refine aA h b (eB X u.c (gq r i ((r i).1,f.cr+cQ u.c,(r i).2.2.1,(r i).2.2.2.1,(r i).2.2.2.2.1,(r i).2.2.2.2.2)) t++.sl s1::aY s2::mA X) rfl (iY (by show 1+9+i*6+1+1≤140;omega)) (HU X u.c r t s1 s2 hi8 _) λw h=>?_;obtain⟨r',hr'⟩:∃r',r'=gq r i ((r i).1,f.cr+cQ u.c,(r i).2.2.1,(r i).2.2.2.1,(r i).2.2.2.2.1,(r i).2.2.2.2.2):=⟨_,rfl⟩;rw[←hr']at h;have h:=h.dW b X (eB X u.c r' t) s1 s2 u.lv;refine ar (vY b X u.c r' t u.lv hu.lv i hi8 2 (by decide)) h λ_ w h=>?_;have hri:r' i=((r i).1,f.cr+cQ u.c,(r i).2.2.1,(r i).2.2.2.1,(r i).2.2.2.2.1,(r i).2.2.2.2.2):=(by rw[hr',da]);have hup:gq r' i (xe (r' i) 2)=gq r i ((i:Int),f.cr+cQ u.c,2,f.nx,f.si,mg (r i)):=by
      funext q
      by_cases e:q=i
      ·rw[e,da,da,hri];show((r i).1,f.cr+cQ u.c,2,(r i).2.2.2.1,(r i).2.2.2.2.1,(r i).2.2.2.2.2)=_;rw[q2]
      ·rw[fR _ _ e,fR _ _ e,hr',fR _ _ e]
     rw[hup,qq hh hi]at h;have hpi:fx {u with fl:=kz u.fl i (some {f with cr:=f.cr+cQ u.c}),lv:=(fg u.lv).2} i=2:=by
      unfold fx;rw[←qq hh hi,uR];rfl
     have hq2:=Ck (u':={u with fl:=kz u.fl i (some {f with cr:=f.cr+cQ u.c}),lv:=(fg u.lv).2}) hq hf (cA _ _ _) (λj e=>eG _ _ e) (λj e=>kw (eG _ _ e) (by rw[←qq hh hi];exact oA u.lv 2 (by omega))) ((i:Int),f.cr+cQ u.c,2,f.nx,f.si,mg (r i)) (by rw[hpi]);have hs2:fT {u with fl:=kz u.fl i (some {f with cr:=f.cr+cQ u.c}),lv:=(fg u.lv).2} i=f.sg:=by
      unfold fT;rw[show({u with fl:=kz u.fl i (some {f with cr:=f.cr+cQ u.c}),lv:=(fg u.lv).2}:Qm).fl i=_ from cA _ _ _]
     have h:=h.H2 r (fT u) hi8;rw[q3]at h;have h:=h.Lg r (gq r i ((i:Int),f.cr+cQ u.c,2,f.nx,f.si,mg (r i))) (fT u) (fT {u with fl:=kz u.fl i (some {f with cr:=f.cr+cQ u.c}),lv:=(fg u.lv).2}) hi8 (λj e=>fR _ _ e) (λj e=>xy u i _ _ _ _ e) (tk:=by rw[hs2,da];infer_instance);have hmu:=vt hA c;exact next () {u with fl:=kz u.fl i (some {f with cr:=f.cr+cQ u.c}),lv:=(fg u.lv).2} w ⟨hA.GA c,k,by omega,hR⟩ (h.gn b X {u with fl:=kz u.fl i (some {f with cr:=f.cr+cQ u.c}),lv:=(fg u.lv).2} _ t hq2).aI hmu
    have c:¬f.cr≤0:=cC;rw[ay c]at hR;have hsl:(mg (r i)).len=f.sg.length:=by
     have h:=h.H2 r (fT u) hi8;have:=(h.rd (s:=mg (r i))).2;rw[q3]at this;exact this
    refine aQ h (λ_=>af n1 zS^aV s KU rates^kv b X (eB X u.c r t) u.lv^eD (rJ r (fT u)) 8) (λy:Bool=>y=true↔f.sg=[]∧((cd u.lv).2.1=true∧u.lv.2≠[])) (λ(y:Bool) w hy h=>?_) ?_
    ·refine ae (λc2=>?_) λc2=>?_
     ·obtain⟨e3,e4⟩:=hy.1 c2;rw[e3]at hR;simp only at hR;rw[aG e4]at hR;refine ar (vY b X u.c r t u.lv hu.lv i hi8 2 (by decide)) h λ_ w h=>?_;rw[qq hh hi]at h;have hpi:fx {u with lv:=(fg u.lv).2} i=2:=by
       unfold fx;rw[←qq hh hi,uR];rfl
      have hq2:=Ck (u':={u with lv:=(fg u.lv).2}) hq hf hf (λ_ _=>rfl) (λj e=>kw rfl (by rw[←qq hh hi];exact oA u.lv 2 (by omega))) (xe (r i) 2) (by rw[hpi];show((r i).1,(r i).2.1,2,(r i).2.2.2.1,(r i).2.2.2.2.1,mg (r i))=_;rw[q2]);rw[←OX r i 2 (fT u),show fT u=fT {u with lv:=(fg u.lv).2}from rfl]at h;have hmu:=yX hA e4.1;exact next () {u with lv:=(fg u.lv).2} w ⟨hA.back,k,by omega,hR⟩ (h.gn b X {u with lv:=(fg u.lv).2} (gq r i (xe (r i) 2)) t hq2).aI hmu
     have c2:¬(f.sg=[]∧((cd u.lv).2.1=true∧u.lv.2≠[])):=λx=>by have:=hy.2 x;rw[c2]at this;cases this
     obtain⟨s1,s2,h⟩:=h.kv b X (eB X u.c r t) u.lv;refine ac (ah h (sI X u.c r t s1 s2 hi8) ?_);refine ae (λc3=>?_) λc3=>?_
     ·have c3:(mg (r i)).len=0:=by
       have c3:(((mg (r i)).len:Nat):Int)=0:=(by simpa using c3);omega
      have e3:f.sg=[]:=jE (by omega);rw[e3]at hR;simp only at hR;rw[ay (λx=>c2 ⟨e3,x⟩)]at hR;have h:=h.dW b X (eB X u.c r t) s1 s2 u.lv;refine ar (vY b X u.c r t u.lv hu.lv i hi8 0 (by decide)) h λ_ w h=>?_;rw[qt hh hi (by decide)]at h;obtain⟨s1,s2,h⟩:=h.kv b X (eB X u.c (gq r i (xe (r i) 0)) t) (cy u.lv).2;refine ac (aA h b (eB X u.c (gq (gq r i (xe (r i) 0)) i ((gq r i (xe (r i) 0) i).1,(gq r i (xe (r i) 0) i).2.1,(gq r i (xe (r i) 0) i).2.2.1,(gq r i (xe (r i) 0) i).2.2.2.1,aj,(gq r i (xe (r i) 0) i).2.2.2.2.2)) t++.sl s1::aY s2::mA X) rfl (iY (by show 1+9+i*6+4+1≤140;omega)) (OH X u.c _ t s1 s2 hi8 aj) λw h=>?_);have hup:gq (gq r i (xe (r i) 0)) i ((gq r i (xe (r i) 0) i).1,(gq r i (xe (r i) 0) i).2.1,(gq r i (xe (r i) 0) i).2.2.1,(gq r i (xe (r i) 0) i).2.2.2.1,aj,(gq r i (xe (r i) 0) i).2.2.2.2.2)=gq r i ((i:Int),f.cr,0,f.nx,aj,mg (r i)):=by
       funext q
       by_cases e:q=i
       ·rw[e,da,da,da];show((r i).1,(r i).2.1,0,(r i).2.2.2.1,aj,(r i).2.2.2.2.2)=_;rw[q2]
       ·rw[fR _ _ e,fR _ _ e,fR _ _ e]
      rw[hup]at h;have h:=h.dW b X (eB X u.c (gq r i ((i:Int),f.cr,0,f.nx,aj,mg (r i))) t) s1 s2 (cy u.lv).2;have hpi:fx {u with lv:=(cy u.lv).2,fl:=kz u.fl i (some {f with si:=aj})} i=0:=by
       unfold fx;rw[←qt hh hi (p:=0) (by decide),zZ _ _ (by decide),ay (by simp)];rw[show({u with lv:=qP u.lv (i:Int) 0,fl:=kz u.fl i (some {f with si:=aj})}:Qm).fl i=_ from cA _ _ _];exact aG e3
      have hq2:=Ck (u':={u with lv:=(cy u.lv).2,fl:=kz u.fl i (some {f with si:=aj})}) hq hf (cA _ _ _) (λj e=>eG _ _ e) (λj e=>kw (eG _ _ e) (by rw[←qt hh hi (p:=0) (by decide)];exact oA u.lv 0 (by omega))) ((i:Int),f.cr,0,f.nx,aj,mg (r i)) (by rw[hpi]);have hs2:fT {u with lv:=(cy u.lv).2,fl:=kz u.fl i (some {f with si:=aj})} i=f.sg:=by
       unfold fT;rw[show({u with lv:=(cy u.lv).2,fl:=kz u.fl i (some {f with si:=aj})}:Qm).fl i=_ from cA _ _ _]
      have h:=h.H2 r (fT u) hi8;rw[q3]at h;have h:=h.Lg r (gq r i ((i:Int),f.cr,0,f.nx,aj,mg (r i))) (fT u) (fT {u with lv:=(cy u.lv).2,fl:=kz u.fl i (some {f with si:=aj})}) hi8 (λj e=>fR _ _ e) (λj e=>xy u i _ _ _ _ e) (tk:=by rw[hs2,da];infer_instance);have hmu:=qF hA (some {f with si:=aj}) u.ks;exact next () {u with lv:=(cy u.lv).2,fl:=kz u.fl i (some {f with si:=aj})} w ⟨hA.De e3 hn,k,by omega,by rw[e3];exact hR⟩ (h.gn b X {u with lv:=(cy u.lv).2,fl:=kz u.fl i (some {f with si:=aj})} _ t hq2).aI hmu
     have c3:(mg (r i)).len≠0:=by
      have c3:¬(((mg (r i)).len:Nat):Int)=0:=(by simpa using c3);omega
     have e3:f.sg≠[]:=λe=>by rw[e]at hsl;exact c3 (by simpa using hsl)
     cases hss:f.sg with
     |nil=>exact absurd hss e3
     |cons s0 ss=>
     rw[hss]at hR;simp only at hR;have q3':=q3;rw[hss]at q3';refine ac (ah h (FM X u.c r t s1 s2 hi8) ?_);have h:=h.H2 r (fT u) hi8;rw[q3']at h;refine bP (rT (r i) s0 ss) h λx w h=>?_;obtain⟨hx,h⟩:=h.aP;rw[hx];have e5:(if ve s0>(r i).2.2.2.1 then ve s0 else(r i).2.2.2.1)=du f:=by
      have:(r i).2.2.2.1=f.nx:=(by rw[q2]);rw[this];unfold du;rw[hss]
     rw[e5];refine ae (λc4=>?_) λc4=>?_
     ·have c4:du f>aj:=(by simpa using c4);rw[aG c4]at hR;obtain⟨hOk,hnin,hlt⟩:=hA.wait e3;have h:=h.Lg r r (fT u) (fT u) hi8 (λ_ _=>rfl) (λ_ _=>rfl) (tk:=by rw[q3'];infer_instance);have h:=h.dW b X (eB X u.c r t) s1 s2 u.lv;refine ar (vY b X u.c r t u.lv hu.lv i hi8 3 (by decide)) h λ_ w h=>?_;rw[qt hh hi (by decide)]at h;have hpi:fx {u with lv:=(cy u.lv).2,ks:=mO u.ks (du f,(i:Int))} i=3:=by
       unfold fx;rw[←qt hh hi (p:=3) (by decide),zZ _ _ (by decide),ay (by simp)];rw[show({u with lv:=qP u.lv (i:Int) 3,ks:=mO u.ks (du f,(i:Int))}:Qm).fl i=some f from hf];exact ay e3
      have hq2:=Ck (u':={u with lv:=(cy u.lv).2,ks:=mO u.ks (du f,(i:Int))}) hq hf hf (λ_ _=>rfl) (λj e=>kw rfl (by rw[←qt hh hi (p:=3) (by decide)];exact oA u.lv 3 (by omega))) (xe (r i) 3) (by rw[hpi];show((r i).1,(r i).2.1,3,(r i).2.2.2.1,(r i).2.2.2.2.1,mg (r i))=_;rw[q2]);rw[←OX r i 3 (fT u),show fT u=fT {u with lv:=(cy u.lv).2,ks:=mO u.ks (du f,(i:Int))}from rfl]at h;have hmu:=qF hA (some f) (mO u.ks (du f,(i:Int)));rw[H8 hf]at hmu;exact next () {u with lv:=(cy u.lv).2,ks:=mO u.ks (du f,(i:Int))} w ⟨hOk,k,by omega,hR⟩ (h.gn b X {u with lv:=(cy u.lv).2,ks:=mO u.ks (du f,(i:Int))} (gq r i (xe (r i) 3)) t hq2).aI hmu
     have c4:¬du f>aj:=(by simpa using c4);rw[ay c4]at hR;have hlen:=hu.len hf;have hsln:f.sg.length=ss.length+1:=(by rw[hss];rfl);have hUr:=CB hr i;obtain⟨_,hok2⟩:=hF.sg s0 (by rw[hss];simp);have hln:=hok2.ln;have hL:=CA hUr hu.cf.r;have hDl:=oU (n:=lM s0) (by omega) hL;have hcap:=pi (s:=mg (r i)) (K:=KS) (xs:=s0::ss) h;refine ac (ah h (sI X u.c r t s1 s2 hi8) (bS (s:=mg (r i)) h (by decide) (by simp) (dP h (mg (r i)) 0 (y:=s0) rfl rfl ?_)));refine aD h λn47 w h=>az h (by rfl) λw h=>ac (ah h (sI X u.c r t s1 s2 hi8) ?_);refine wE (s:=mg (r i)) h 1 (mg (r i)).len (mg (r i)).cap rfl rfl rfl rfl (by omega) (by rw[hsl,hss];exact eE _) (by omega) (by omega) λs50 _ _ h=>?_;have ht:((s0::ss).take (mg (r i)).len).drop 1=ss:=(by rw[jZ (by rw[hsl,hss];exact eE _)];rfl);rw[ht]at h;have h:=h.nil KS;refine dF (K:=KS) (s:=⟨none,0,0⟩) (x:=s50) (xs:=[]) (ys:=ss) h rfl (by simp only[kb];omega) λs51 w _ h=>?_;have h:=h.eN (s:=s51) (K:=KS) (ys:=ss) rfl;obtain⟨r1,hr1⟩:∃r1,r1=gq r i ((r i).1,(r i).2.1,(r i).2.2.1,(r i).2.2.2.1,(r i).2.2.2.2.1,s51):=⟨_,rfl⟩;refine ac (aA h b (eB X u.c r1 t++.sl s1::aY s2::mA X) rfl (iY (by show 1+9+i*6+5+1≤140;omega)) (by rw[hr1];exact OI X u.c r t s1 s2 hi8 s51) λw h=>?_);have hr1i:r1 i=((i:Int),f.cr,fx u i,f.nx,f.si,s51):=(by rw[hr1,da,q2]);have hcw:i64.wrap (f.cr-lM s0)=f.cr-lM s0:=gi;have e11:(r1 i).2.1=f.cr:=(by rw[hr1i]);refine aM h λw h=>ac (ah h rfl (ah h (DQ X u.c r1 t s1 s2 hi8) (ac ?_)));rw[e11];rw[show i64.wrap (f.cr-s0.2.2.1)=f.cr-lM s0 from hcw];obtain⟨r2,hr2⟩:∃r2,r2=gq r1 i ((r1 i).1,f.cr-lM s0,(r1 i).2.2.1,(r1 i).2.2.2.1,(r1 i).2.2.2.2.1,(r1 i).2.2.2.2.2):=⟨_,rfl⟩;refine aA h b (eB X u.c r2 t++.sl s1::aY s2::mA X) rfl (iY (by show 1+9+i*6+1+1≤140;omega)) (by rw[hr2];exact HU X u.c r1 t s1 s2 hi8 _) λw h=>?_;have hr2i:r2 i=((i:Int),f.cr-lM s0,fx u i,f.nx,f.si,s51):=(by rw[hr2,da,hr1i]);refine aM h λw h=>ah h rfl (ac (ah h rfl (bP (wc s rates i) h λx w h=>?_)));obtain⟨hx,h⟩:=h.aP;rw[hx];refine aN h rfl (aN h rfl (ar (K0 _ (cR u.c) hUr hu.cf.r) h λx w h=>?_));obtain⟨hx,h⟩:=h.aP;rw[hx];refine aN h rfl (ar (uY (lM s0) _ (by omega) hL) h λx w h=>?_);obtain⟨hx,h⟩:=h.aP;rw[hx];refine ar (fP aj _ hn hDl) h λx w h=>?_;obtain⟨hx,h⟩:=h.aP;rw[hx];obtain⟨r3,hr3⟩:∃r3,r3=gq r2 i ((r2 i).1,(r2 i).2.1,(r2 i).2.2.1,bJ aj (dY (lM s0) (gu (ib rates i) (cR u.c))),(r2 i).2.2.2.2.1,(r2 i).2.2.2.2.2):=⟨_,rfl⟩;refine ac (aA h b (eB X u.c r3 t++.sl s1::aY s2::mA X) rfl (iY (by show 1+9+i*6+3+1≤140;omega)) (by rw[hr3];exact Wo X u.c r2 t s1 s2 hi8 _) λw h=>?_);have hr3e:r3=gq r i ((i:Int),f.cr-lM s0,fx u i,bJ aj (dY (lM s0) (gu (ib rates i) (cR u.c))),f.si,s51):=by
      funext q
      by_cases e:q=i
      ·rw[e,da,hr3,da,hr2i]
      ·rw[fR _ _ e,hr3,fR _ _ e,hr2,fR _ _ e,hr1,fR _ _ e]
     rw[hr3e]at h;have h:=h.dW b X (eB X u.c (gq r i ((i:Int),f.cr-lM s0,fx u i,bJ aj (dY (lM s0) (gu (ib rates i) (cR u.c))),f.si,s51)) t) s1 s2 u.lv;refine aw (b:=n47) (x:=s0) h rfl (az h (by rfl) λw h=>aw (b:=n1) (x:=s0) h rfl ?_);have hpi:fx (ej u i f s0 aj (ib rates i)) i=fx u i:=by
      have h1:=oz.2 hA.inl;unfold fx;rw[aG h1];exact(aG h1).symm
     have hq2:=Ck (u':=ej u i f s0 aj (ib rates i)) hq hf (cA _ _ _) (λj e=>eG _ _ e) (λj e=>kw (eG _ _ e) rfl) ((i:Int),f.cr-lM s0,fx u i,bJ aj (dY (lM s0) (gu (ib rates i) (cR u.c))),f.si,s51) (by rw[hpi]);have hs2:fT (ej u i f s0 aj (ib rates i)) i=ss:=by
      unfold fT;rw[show(ej u i f s0 aj (ib rates i)).fl i=_ from cA _ _ _];show f.sg.tail=ss;rw[hss];rfl
     have h:=h.Lg r (gq r i ((i:Int),f.cr-lM s0,fx u i,bJ aj (dY (lM s0) (gu (ib rates i) (cR u.c))),f.si,s51)) (fT u) (fT (ej u i f s0 aj (ib rates i))) hi8 (λj e=>fR _ _ e) (λj e=>xy u i _ _ _ _ e) (tk:=by rw[hs2,da];infer_instance);rw[←hR];exact au.aH rfl (h.gn b X (ej u i f s0 aj (ib rates i)) _ t hq2).aI
    ·refine ac (ah h (sI X u.c r t s1 s2 hi8) ?_);have hs2l:=(h.rd (s:=s2)).2;refine ae (λc2=>?_) λc2=>?_
     ·simp only[d_,qQ]at c2;obtain⟨c2,c3⟩:=c2;have c2:(mg (r i)).len=0:=by have c2:(((mg (r i)).len:Nat):Int)=0:=c2;omega
      have e3:f.sg=[]:=jE (by omega);refine ac (ah (x:=s2) h rfl ?_);refine⟨?_,(h.dW b X (eB X u.c r t) s1 s2 u.lv).aI⟩;show decide (((s2.len:Nat):Int)>0)=true↔_;rw[iZ,hs2l];constructor
      ·intro x;exact⟨e3,c3,λe=>by rw[e]at x;simp at x⟩
      ·rintro⟨_,_,x⟩;have:u.lv.2.length≠0:=λe=>x (jE e);omega
     ·refine⟨?_,(h.dW b X (eB X u.c r t) s1 s2 u.lv).aI⟩;refine⟨λe=>(by cases e),λ⟨e1,e2,_⟩=>?_⟩;rw[e1]at hsl;have:(mg (r i)).len=0:=by simpa using hsl
      rw[e2,this]at c2;cases c2
  ·obtain⟨r,t,hq,h⟩:=h.cM b X v;refine ar (qd b X v hv r t hq) h λx w h=>?_;obtain⟨hx,h⟩:=h.aP;rw[hx];have h:au w0 S R w (af n1 zS^aV s KU rates^cM b X v):=(h.gn b X v r t hq).aI;refine fY (λ(_:Int) (u:Qm)=>af n1 zS^aV s KU rates^cM b X u) (λ(y:Int) u=>(jv u∧pI u aj=pI v aj)∧y=lp u) (λ_ u=>u.ks.length) v h ⟨⟨hv,rfl⟩,rfl⟩ ?_;rintro K (y:Int) u w ⟨⟨hu,hd⟩,hy⟩ h next
   rw[hy];refine aQ h (λ_=>af n1 zS^aV s KU rates^cM b X u) (λ_=>∃k l,u.ks=k::l∧k.1≤aj) (λ_ w hx h=>?_) ?_
   ·obtain⟨k,l,hk,hkn⟩:=hx;obtain⟨i,f,hf,hs,hni,he⟩:=(hu.ks k).1 (by rw[hk];simp);have hi8:=(hu.fl i f hf).1;have hk2:k.2=(i:Int):=by rw[he]
    have hfi:lp u=(i:Int):=(by unfold lp;rw[hk];exact hk2);obtain⟨r,t,hq,h⟩:=h.cM b X u;obtain⟨q1,q2,q3⟩:=hq.some hi8 hf;rw[hfi];refine ar (vY b X u.c r t u.lv hu.lv i hi8 2 (by decide)) h λ_ w h=>?_;have hpo:qP u.lv (i:Int) 2=(np u k l).lv:=by
     unfold qP dM np;unfold nU at hni;rw[eQ]at hni;have g:∀L:List Int,(i:Int)∉L→L.filter (λx=>decide (x≠(i:Int)))=L:=λL hL=>by
      rw[Aw];intro x hx;have:x≠(i:Int):=λe=>hL (e▸hx);simpa using this
     rw[aG rfl,g _ (λe=>hni (.inl e)),g _ (λe=>hni (.inr e)),hk2]
    rw[hpo]at h;have hpi:fx (np u k l) i=2:=by
     unfold fx;rw[←hpo,uR];rfl
    have hq2:=Ck (u':=np u k l) hq hf hf (λ_ _=>rfl) (λj e=>kw rfl (by rw[←hpo];exact oA u.lv 2 (by omega))) (xe (r i) 2) (by rw[hpi];show((r i).1,(r i).2.1,2,(r i).2.2.2.1,(r i).2.2.2.2.1,mg (r i))=_;rw[q2]);rw[←OX r i 2 (fT u),show fT u=fT (np u k l)from rfl]at h;have hok:=Q3 hu hk;refine ar (qd b X (np u k l) hok (gq r i (xe (r i) 2)) t hq2) h λx w h=>?_;obtain⟨hx,h⟩:=h.aP;rw[hx];exact next (lp (np u k l)) (np u k l) w ⟨⟨hok,by rw[MD hk hkn,hd]⟩,rfl⟩ (h.gn b X (np u k l) (gq r i (xe (r i) 2)) t hq2).aI (by rw[hk];simp)
   ·have stop:∀{w:World},(∀k∈u.ks,¬k.1≤aj)→au w0 S R w (af n1 zS^aV s KU rates^cM b X u)→True∧au w0 S R w (af n1 zS^aV s KU rates^cM b X (pI v aj)):=λ{w} hno h=>by
     rw[←hd,MC hno];exact⟨trivial,h⟩
    cases hk:u.ks with
    |nil=>
     have e:lp u=-1:=(by unfold lp;rw[hk]);rw[e];refine ae (λc=>(by cases c)) λ_=>stop (λk hk2=>by rw[hk]at hk2;cases hk2) h
    |cons k l=>
     obtain⟨i,f,hf,hs,hni,he⟩:=(hu.ks k).1 (by rw[hk];simp);have hi8:=(hu.fl i f hf).1;have hk2:k.2=(i:Int):=by rw[he]
     have hk1:k.1=du f:=(by rw[he]);have hfi:lp u=(i:Int):=(by unfold lp;rw[hk];exact hk2);rw[hfi];refine ae (λ_=>?_) λc=>?_
     ·obtain⟨r,t,hq,h⟩:=h.cM b X u;obtain⟨q1,q2,q3⟩:=hq.some hi8 hf;obtain⟨s1,s2,h⟩:=h.kv b X (eB X u.c r t) u.lv;refine ac ⟨by omega,?_⟩;rw[eX];refine ah h (FM X u.c r t s1 s2 hi8) ?_;cases hss:f.sg with
      |nil=>exact absurd hss hs
      |cons a1 l1=>
      rw[hss]at q3;have h:=h.H2 r (fT u) hi8;rw[q3]at h;refine bP (rT (r i) a1 l1) h λx w h=>?_;obtain⟨hx,h⟩:=h.aP;rw[hx];have h:=h.Lg r r (fT u) (fT u) hi8 (λ_ _=>rfl) (λ_ _=>rfl) (tk:=by rw[q3];infer_instance);have h:=h.dW b X (eB X u.c r t) s1 s2 u.lv;have h:au w0 S R w (af n1 zS^aV s KU rates^cM b X u):=(h.gn b X u r t hq).aI;have e5:(if ve a1>(r i).2.2.2.1 then ve a1 else(r i).2.2.2.1)=k.1:=by
       have:(r i).2.2.2.1=f.nx:=(by rw[q2]);rw[this,hk1];unfold du;rw[hss]
      rw[e5];refine ae (λc=>⟨⟨k,l,rfl,cC⟩,h⟩) λc=>?_;have c:¬k.1≤aj:=cC;refine stop (λq hq2=>?_) h;rw[hk]at hq2;rcases ec.1 hq2 with rfl|hq2
      ·exact c
      ·have hsr:=hu.xA;rw[hk]at hsr;have:=(uc.1 hsr).1 q hq2;rw[qK]at this;omega
     ·exfalso;simp at c
end Ty

namespace Ze
open bH bp fL Ij _root_.Go.X.Tree iU kR lP ff lL lN Ej Cu xI Jx F6 LC Lt PL SB Jz PM Ty
theorem OD(h:Rq u r t)(hf':u'.fl i=some f')(hfl:∀j,j≠i→u'.fl j=u.fl j)(hpl:∀j,j≠i→fx u' j=fx u j)(x:RF)(hx:x=((i:Int),f'.cr,fx u' i,f'.nx,f'.si,mg x)):Rq u' (gq r i x) (pO t i true):=⟨λq hq8=>by
  by_cases e:q=i
  ·rw[e,hf',wC];rfl
  ·rw[hfl q e,D6 _ _ e];exact h.t q hq8,λq hq8=>by
  by_cases e:q=i
  ·rw[e,da];unfold yl;rw[hf'];exact hx
  ·rw[fR _ _ e];have:=h.r q hq8;unfold yl at this⊢;rw[hfl q e,hpl q e];exact this⟩
theorem WI(h:r i=x):gq r i x=r:=by
 funext j
 by_cases e:j=i
 ·rw[e,da,h]
 ·exact fR _ _ e
theorem Pe(h:t i=x):pO t i x=t:=by
 funext j
 by_cases e:j=i
 ·rw[e,wC,h]
 ·exact D6 _ _ e
theorem H_(r i x y):gq (gq r i x) i y=gq r i y:=by
 funext j
 by_cases e:j=i
 ·rw[e,da,da]
 ·rw[fR _ _ e,fR _ _ e,fR _ _ e]
def yt(b i n1:Nat)(sx:Sl)(R:Rs.T [.lf (.int .i64),.lf (.int .i64)]→WP):WP:=
 aC (some ⟨b,1+9+i*6⟩) λq58=>
 st ⟨q58.b,q58.o+5⟩ [aY sx]<|
 aC (some ⟨b,1+9+i*6⟩) λq59=>
 ld [.int .i64] ⟨q59.b,q59.o+2⟩ λ(x60:Int)=>
 aq (x60==(0:Int)) (
 aC (some ⟨b,1+9+i*6⟩) λq61=>
 st ⟨q61.b,q61.o+2⟩ [aE (1:Int)]<|
 aC (some ⟨b,1+9+i*6⟩) λq62=>
 st ⟨q62.b,q62.o+4⟩ [aB (0:Int)]<|
 bR<|
 aC (some ⟨b,1⟩) λq63=>
 ld [.int .i64] ⟨n1,0⟩ λ(x64:Int)=>
 call Tryz.prog pB [.lf (.ptr (some ⟨q63.b,q63.o+65⟩)),.lf (.int .i64 x64),.lf (.bool true)] [.lf (.int .i64)] λ(_:Int)=>
 R ((0:Int),(0:Int)))<|
 R ((0:Int),(0:Int))
theorem Ye{lv:LV}{i:Int}:bX (lv.1++[i],lv.2) i=1:=by unfold bX;simp
theorem G5(lv){i j:Int}(h:j≠i):bX (lv.1++[i],lv.2) j=bX lv j:=by unfold bX;simp[h]
theorem Pq{w0 w:World}{S0 R0:Nat→Prop}{G:SP}{R:Rs.T [.lf (.int .i64),.lf (.int .i64)]→WP}{b n1:Nat}{X:Cx}{u:Qm}(hu:jv u){i:Nat}(hi8:i<8){aj:Int}{r:Nat→RF}{t:Nat→Bool}(hq:Rq u r t){sx s1 s2:Sl}{x:RF}{g:Fl}{sd:Sg}(hsd:sK sd=(i:Int))
  (hx:x=((i:Int),g.cr,fx u i,g.nx,g.si,mg x)) (hg:(if fx u i=0 then{g with si:=0}else g)=fS u i aj)
  (h:au w0 S0 R0 w (af n1 (Ks.mk KS sd)^af b (eB X u.c (gq r i x) (pO t i true)++.sl s1::aY s2::mA X)^aS s1 KI u.lv.1^aS s2 KI u.lv.2^aS sx KS (g.sg++[sd])^eD (tU (rJ r (fT u)) i) 8^G))
  (k:∀w',au w0 S0 R0 w' (cM b X (kS (eS u i aj) i sd)^G)→R (0,0) w'):yt b i n1 sx R w:=by
 unfold yt;have hl:=hu.lv.GH;have hwg:(fS u i aj).sg=g.sg:=by rw[←hg];split<;>rfl
 have e2:∀y:Sl,(gq r i x i).1=(i:Int):=λ_=>by rw[da,hx]
 have hX:∀y:RF,gq (gq r i x) i y=gq r i y:=λy=>H_ r i x y;refine ac ?_;refine aA h b (eB X u.c (gq r i (x.1,x.2.1,x.2.2.1,x.2.2.2.1,x.2.2.2.2.1,sx)) (pO t i true)++.sl s1::aY s2::mA X) rfl (iY (by show 1+9+i*6+5+1≤140;omega)) (by rw[OI X u.c (gq r i x) (pO t i true) s1 s2 hi8 sx,hX,da]) λw h=>?_;obtain⟨x2,hx2⟩:∃x2:RF,x2=((i:Int),g.cr,fx u i,g.nx,g.si,sx):=⟨_,rfl⟩;rw[show(x.1,x.2.1,x.2.2.1,x.2.2.2.1,x.2.2.2.2.1,sx)=x2 by rw[hx2,hx]]at h;refine ac (ah h (DR X u.c (gq r i x2) (pO t i true) s1 s2 hi8) ?_);have e3:(gq r i x2 i).2.2.1=fx u i:=by rw[da,hx2]
 rw[e3];refine ae (λc=>?_) λc=>?_
 ·have hp:fx u i=0:=cC;have hni:=(z8.1 hp).1;rw[aG hp]at hg;refine ac (aA h b (eB X u.c (gq r i ((i:Int),g.cr,1,g.nx,g.si,sx)) (pO t i true)++.sl s1::aY s2::mA X) rfl (iY (by show 1+9+i*6+2+1≤140;omega)) (by rw[OG X u.c (gq r i x2) (pO t i true) s1 s2 hi8 1,H_,da,hx2]) λw h=>?_);refine ac (aA h b (eB X u.c (gq r i ((i:Int),g.cr,1,g.nx,0,sx)) (pO t i true)++.sl s1::aY s2::mA X) rfl (iY (by show 1+9+i*6+4+1≤140;omega)) (by rw[OH X u.c (gq r i ((i:Int),g.cr,1,g.nx,g.si,sx)) (pO t i true) s1 s2 hi8 0,H_,da]) λw h=>?_);have h:=h.dW b X (eB X u.c (gq r i ((i:Int),g.cr,1,g.nx,0,sx)) (pO t i true)) s1 s2 u.lv;refine aM h λw h=>ac (ah (x:=(i:Int)) h (by rw[←hsd];rfl) ?_);refine ar (zR b X (eB X u.c (gq r i ((i:Int),g.cr,1,g.nx,0,sx)) (pO t i true)) (1+65) rfl u.lv (i:Int) true (by omega)) h λ_ w h=>?_;obtain⟨_,h⟩:=h.aP;have hw:kL u i=(u.lv.1++[(i:Int)],u.lv.2):=by
   unfold kL;rw[ay (by rw[hp];simp),G8 hi8 hni]
  rw[G8 hi8 hni]at h;have hpi:fx (kS (eS u i aj) i sd) i=1:=by
   rw[lL.add_eq];unfold fx;show(if bX (kL u i) (i:Int)≠0 then bX (kL u i) (i:Int)else _)=_;rw[hw,Ye];rfl
  have hq2:=OD (u':=kS (eS u i aj) i sd) hq (by rw[lL.add_eq];exact cA _ _ _) (λj e=>by rw[lL.add_eq];exact eG _ _ e) (λj e=>by
   rw[lL.add_eq];exact kw (eG _ _ e) (by show bX (kL u i) _=_;rw[hw];exact G5 u.lv (by omega))) ((i:Int),g.cr,1,g.nx,0,sx) (by rw[hpi,←hg])
  have hs2:fT (kS (eS u i aj) i sd) i=g.sg++[sd]:=by
   unfold fT;rw[lL.add_eq,hwg];rw[show({u with fl:=kz u.fl i (some {fS u i aj with sg:=g.sg++[sd]}),lv:=kL u i,n:=u.n+1}:Qm).fl i=_ from cA _ _ _]
  have h:=h.Lg r (gq r i ((i:Int),g.cr,1,g.nx,0,sx)) (fT u) (fT (kS (eS u i aj) i sd)) hi8 (λj e=>fR _ _ e) (λj e=>by rw[lL.add_eq];exact xy u i _ _ _ _ e) (tk:=by rw[hs2,da];infer_instance);have hcl:(kS (eS u i aj) i sd).c=u.c∧(kS (eS u i aj) i sd).lv=(u.lv.1++[(i:Int)],u.lv.2):=by rw[lL.add_eq];exact⟨rfl,hw⟩
  refine k w ?_;rw[←hcl.1,←hcl.2]at h;exact(h.gn b X (kS (eS u i aj) i sd) _ _ hq2).aI
 ·have hp:fx u i≠0:=cC;rw[ay hp]at hg;have h:=h.dW b X (eB X u.c (gq r i x2) (pO t i true)) s1 s2 u.lv;have hw:kL u i=u.lv:=by unfold kL;rw[aG hp]
  have hpi:fx (kS (eS u i aj) i sd) i=fx u i:=by
   rw[lL.add_eq];unfold fx;show(if bX (kL u i) (i:Int)≠0 then bX (kL u i) (i:Int)else match kz u.fl i (some {fS u i aj with sg:=(fS u i aj).sg++[sd]}) i with|none=>0|some f=>if f.sg=[]then 0 else 3)=if bX u.lv (i:Int)≠0 then bX u.lv (i:Int)else match u.fl i with|none=>0|some f=>if f.sg=[]then 0 else 3
   rw[hw,cA];by_cases hpl:bX u.lv (i:Int)≠0
   ·rw[aG hpl,aG hpl]
   ·rw[ay hpl,ay hpl];have hp2:fx u i=match u.fl i with|none=>0|some f=>if f.sg=[]then 0 else 3:=by
     unfold fx;rw[ay hpl]
     rfl
    simp only;rw[ay (by simp)];cases hf:u.fl i with
    |none=>rw[hf]at hp2;exact absurd hp2 hp
    |some f=>
     rw[hf]at hp2;simp only at hp2⊢;split at hp2
     ·exact absurd hp2 hp
     ·rename_i hne;rw[ay hne]
  have hq2:=OD (u':=kS (eS u i aj) i sd) hq (by rw[lL.add_eq];exact cA _ _ _) (λj e=>by rw[lL.add_eq];exact eG _ _ e) (λj e=>by
   rw[lL.add_eq];exact kw (eG _ _ e) (by show bX (kL u i) _=_;rw[hw])) x2 (by rw[hpi,←hg];exact hx2.trans (by rw[hx2]))
  have hs2:fT (kS (eS u i aj) i sd) i=g.sg++[sd]:=by
   unfold fT;rw[lL.add_eq,hwg];rw[show({u with fl:=kz u.fl i (some {fS u i aj with sg:=g.sg++[sd]}),lv:=kL u i,n:=u.n+1}:Qm).fl i=_ from cA _ _ _]
  have hsl:mg (gq r i x2 i)=sx:=by rw[da,hx2]
  have h:=h.Lg r (gq r i x2) (fT u) (fT (kS (eS u i aj) i sd)) hi8 (λj e=>fR _ _ e) (λj e=>by rw[lL.add_eq];exact xy u i _ _ _ _ e) (tk:=by rw[hs2,hsl];infer_instance);have hcl:(kS (eS u i aj) i sd).c=u.c∧(kS (eS u i aj) i sd).lv=u.lv:=by rw[lL.add_eq];exact⟨rfl,hw⟩
  refine k w ?_;rw[←hcl.1,←hcl.2]at h;exact(h.gn b X (kS (eS u i aj) i sd) _ _ hq2).aI
end Ze

namespace JA
open bH bp fL Ij _root_.Go.X.Tree iU kR lP ff lL lN Ej Cu xI Jx F6 LC Lt PL SB Jz PM Ty Ze
theorem Oo(b X v)(hv:jv v)(s)(aj:Int)(hs:U (R5 s)∧U (ve s))(hn:U aj):bu (T3 (some ⟨b,1⟩) s aj) (cM b X v) (λr=>bs (r=(fG v s aj).1) (cM b X (fG v s aj).2)):=
 bC λw0 S R h=>by
  refine aD h λn1 w h=>?_;have h:au w0 S R w (af n1 (Ks.mk KS s)^cM b X v):=h;refine aQ h (λ_=>af n1 (Ks.mk KS s)^cM b X v) (λ_=>0≤sK s∧sK s≤7) (λ_ w hk h=>?_) ?_;rotate_left
  ·have bad:∀{w:World},¬(0≤sK s∧sK s≤7)→au w0 S R w (af n1 (Ks.mk KS s)^cM b X v)→au w0 S R w (bs (((0:Int),(8:Int))=(fG v s aj).1) (cM b X (fG v s aj).2)):=λ{w} c h=>by
    have e:fG v s aj=((0,8),v):=(by unfold fG;rw[aG c]);rw[e];exact au.aH rfl h.aI
   refine ah h rfl (ae (λc=>?_) λc=>?_)
   ·have c:sK s<0:=bV c;exact bad (by omega) h
   ·have c:¬sK s<0:=bY c;refine ah h rfl (ae (λc2=>?_) λc2=>?_)
    ·have c2:sK s≥8:=bV c2;exact bad (by omega) h
    ·have c2:¬sK s≥8:=bY c2;exact⟨by omega,h⟩
  refine aQ h (λ_=>af n1 (Ks.mk KS s)^cM b X v) (λ_=>1≤lM s∧lM s≤65536) (λ_ w hln h=>?_) ?_;rotate_left
  ·have bad:∀{w:World},¬(1≤lM s∧lM s≤65536)→au w0 S R w (af n1 (Ks.mk KS s)^cM b X v)→au w0 S R w (bs (((0:Int),(1:Int))=(fG v s aj).1) (cM b X (fG v s aj).2)):=λ{w} c h=>by
    have e:fG v s aj=((0,1),v):=(by unfold fG;rw[ay (λx=>x hk),aG c]);rw[e];exact au.aH rfl h.aI
   refine ah h rfl (ae (λc=>?_) λc=>?_)
   ·have c:lM s<1:=bV c;exact bad (by omega) h
   ·have c:¬lM s<1:=bY c;refine ah h rfl (ae (λc2=>?_) λc2=>?_)
    ·have c2:lM s>65536:=bV c2;exact bad (by omega) h
    ·have c2:¬lM s>65536:=bY c2;exact⟨by omega,h⟩
  refine ar (DN b X v hv aj) h λ_ w h=>?_;obtain⟨u,hue⟩:∃u,u=bM v aj:=⟨_,rfl⟩;have hu:jv u:=by rw[hue];exact hv.collect aj
  have huc:u.c=v.c:=by rw[hue]
  rw[←hue]at h;have hen:fG v s aj=if iJ u s aj=0 then((0,0),kS (eS u (sK s).toNat aj) (sK s).toNat (drawn v s aj))else((iJ u s aj,0),u):=by
   unfold fG;rw[ay (λx=>x hk),ay (λx=>x hln),hue]
  obtain⟨i,hi⟩:∃i:Nat,sK s=(i:Int):=⟨(sK s).toNat,by omega⟩;have hi8:i<8:=by omega
  have hit:(sK s).toNat=i:=by rw[hi,eX]
  rw[hit]at hen;have hs1:s.1=(i:Int):=hi;have hH:U (cH u.c):=by have:=hu.cf.h;unfold U;omega
  refine aM h λw h=>ah (x:=(i:Int)) h (by rw[←hs1];rfl) (ac ⟨by omega,ac ?_⟩);rw[eX];obtain⟨r,t,hq,h⟩:=h.cM b X u;obtain⟨s1,s2,h⟩:=h.kv b X (eB X u.c r t) u.lv;refine ah h rfl (ar (fP aj (cH u.c) hn hH) h λx w h=>?_);obtain⟨hx,h⟩:=h.aP;rw[hx];have h:=h.dW b X (eB X u.c r t) s1 s2 u.lv;have h:au w0 S R w (af n1 (Ks.mk KS s)^kv b X (eB X u.c r t) u.lv^eD (rJ r (fT u)) 8):=h.aI;refine aQ h (λ_=>af n1 (Ks.mk KS s)^kv b X (eB X u.c r t) u.lv^eD (rJ r (fT u)) 8) (λ_=>iJ u s aj=0) (λ_ w hf0 h=>?_) ?_;rotate_left
  ·have out:∀{w:World} (x:Int),x≠0→iJ u s aj=x→au w0 S R w (af n1 (Ks.mk KS s)^kv b X (eB X u.c r t) u.lv^eD (rJ r (fT u)) 8^bg)→au w0 S R w (bs ((x,(0:Int))=(fG v s aj).1) (cM b X (fG v s aj).2)):=λ{w} x hx hfx h=>by
    rw[hen,ay (by rw[hfx];exact hx),hfx];exact au.aH rfl (h.gn b X u r t hq).aI
   obtain⟨s1,s2,h⟩:=h.kv b X (eB X u.c r t) u.lv;refine aM h λw h=>ac (ah h rfl ?_);have h:=h.dW b X (eB X u.c r t) s1 s2 u.lv;refine ar (Oz b X u hu r t hq) h λx w h=>?_;obtain⟨hx,h⟩:=h.aP;rw[hx];obtain⟨s1,s2,h⟩:=h.kv b X (eB X u.c r t) u.lv;refine aN h rfl (ae (λc=>?_) λc1=>?_)
   ·have c:u.n≥cL u.c:=bV c;exact out 2 (by decide) (by unfold iJ;rw[aG c]) (h.dW b X (eB X u.c r t) s1 s2 u.lv).aI
   have c1:¬u.n≥cL u.c:=bY c1;refine aM h λw h=>ac (ac (ah h (sI X u.c r t s1 s2 hi8) (ah h rfl ?_)));have hsl:(mg (r i)).len=(fT u i).length:=by
    have h:=h.H2 r (fT u) hi8;exact(h.rd (s:=mg (r i))).2
   have hw:=hu.cf.w;have hex:(((mg (r i)).len:Nat):Int)≥cW u.c↔∃f,u.fl (sK s).toNat=some f∧(f.sg.length:Int)≥cW u.c:=by
    rw[hit,hsl];unfold fT;cases hf:u.fl i with
    |none=>exact⟨λx=>(by simp only[kb]at x;omega),λ⟨_,e,_⟩=>(by cases e)⟩
    |some f=>exact⟨λx=>⟨f,rfl,x⟩,λ⟨g,e,x⟩=>(by cases e;exact x)⟩
   refine ae (λc=>?_) λc2=>?_
   ·have c:(((mg (r i)).len:Nat):Int)≥cW u.c:=bV c;exact out 3 (by decide) (by unfold iJ;rw[ay c1,aG (hex.1 c)]) (h.dW b X (eB X u.c r t) s1 s2 u.lv).aI
   have c2:¬(((mg (r i)).len:Nat):Int)≥cW u.c:=bY c2;have c2:=λx=>c2 (hex.2 x);refine ah h rfl (ae (λc=>?_) λc3=>?_)
   ·have c:ve s>bJ aj (cH u.c):=bV c;refine ac (ah h rfl (ae (λc4=>?_) λc4=>?_))
    ·exact out 4 (by decide) (by unfold iJ;rw[ay c1,ay c2,aG ⟨c,c4⟩]) (h.dW b X (eB X u.c r t) s1 s2 u.lv).aI
    ·exact⟨by unfold iJ;rw[ay c1,ay c2,ay (λx=>by rw[c4]at x;cases x.2)],(h.dW b X (eB X u.c r t) s1 s2 u.lv).aI⟩
   ·have c3:¬ve s>bJ aj (cH u.c):=bY c3;exact⟨by unfold iJ;rw[ay c1,ay c2,ay (λx=>c3 x.1)],(h.dW b X (eB X u.c r t) s1 s2 u.lv).aI⟩
  obtain⟨sd,hsd⟩:∃sd,sd=drawn v s aj:=⟨_,rfl⟩;have hsdk:sK sd=(i:Int):=by rw[hsd];exact hi
  rw[hen,aG hf0,←hsd];refine ah h rfl (aA h n1 (Ks.mk KS sd) rfl rfl (by rw[hsd,show drawn v s aj=(sK s,R5 s,lM s,(if bJ aj (cH u.c)<ve s then bJ aj (cH u.c)else ve s),sAg s) by rw[huc];rfl];rfl) λw h=>?_);refine aQ h (λ_=>xQ (λx:RF×Fl=>x.1=((i:Int),x.2.cr,fx u i,x.2.nx,x.2.si,mg x.1)∧(if fx u i=0 then{x.2 with si:=0}else x.2)=fS u i aj) (λx=>af n1 (Ks.mk KS sd)^kv b X (eB X u.c (gq r i x.1) (pO t i true)) u.lv^aS (mg x.1) KS x.2.sg^eD (tU (rJ r (fT u)) i) 8)) (λ_=>True) (λ_ w _ h=>?_) ?_
  ·obtain⟨⟨x,g⟩,⟨hx1,hg⟩,h⟩:=h.NJ;dsimp only at hx1 hg h;have hgl:g.sg.length≤512:=by
    have:(fS u i aj).sg=g.sg:=(by rw[←hg];split<;>rfl);rw[←this,A7];cases hf:u.fl i with
    |none=>simp
    |some f=>exact(hu.len hf).2
   obtain⟨s1,s2,h⟩:=h.kv b X (eB X u.c (gq r i x) (pO t i true)) u.lv;have esl:(gq r i x i).2.2.2.2.2=mg x:=by rw[da]
   refine aM h λw h=>aw (b:=n1) (x:=sd) h rfl (ac (ah h (sI X u.c (gq r i x) (pO t i true) s1 s2 hi8) ?_));rw[esl];have hck:=RY X u.c (gq r i x) (pO t i true) s1 s2 hi8;rw[esl]at hck;refine⟨?_,?_⟩
   ·have h:=h.nil KS;refine dF (K:=KS) (s:=⟨none,0,0⟩) (x:=mg x) (xs:=[]) (ys:=g.sg) h rfl (by simp only[kb];omega) λs55 w _ h=>?_;have h:=h.eN (s:=s55) (K:=KS) (ys:=g.sg) rfl;refine aO (b:=n1) h (aD h λn56 w h=>?_);refine aN h hck ?_;have h:=h.co n56 KS [sd] rfl (by simp);refine dF (s:=s55) (x:=⟨some ⟨n56,0⟩,1,1⟩) (ys:=[sd]) h rfl (by simp only[mc];omega) λs57 w _ h=>?_;show yt b i n1 s57 (λx w'=>au w0 S R w' (bs (x=((((0:Int),(0:Int)),kS (eS u i aj) i sd):(Int×Int)×Qm).1) (cM b X ((((0:Int),(0:Int)),kS (eS u i aj) i sd):(Int×Int)×Qm).2))) w;exact Pq (G:=bg) (sx:=s57) (s1:=s1) (s2:=s2) (x:=x) (g:=g) hu hi8 hq hsdk hx1 hg h.aI λw h=>au.aH rfl h.br
   ·refine aD h λn66 w h=>?_;refine aN h hck ?_;have h:=h.nil KS;refine dF (K:=KS) (s:=⟨none,0,0⟩) (x:=mg x) (xs:=[]) (ys:=g.sg) h rfl (by simp only[kb];omega) λs67 w _ h=>?_;have h:=h.eN (s:=s67) (K:=KS) (ys:=g.sg) rfl;refine aO (b:=n1) h ?_;have h:=h.co n66 KS [sd] rfl (by simp);refine dF (s:=s67) (x:=⟨some ⟨n66,0⟩,1,1⟩) (ys:=[sd]) h rfl (by simp only[mc];omega) λs68 w _ h=>?_;show yt b i n1 s68 (λx w'=>au w0 S R w' (bs (x=((((0:Int),(0:Int)),kS (eS u i aj) i sd):(Int×Int)×Qm).1) (cM b X ((((0:Int),(0:Int)),kS (eS u i aj) i sd):(Int×Int)×Qm).2))) w;exact Pq (G:=bg) (sx:=s68) (s1:=s1) (s2:=s2) (x:=x) (g:=g) hu hi8 hq hsdk hx1 hg h.aI λw h=>au.aH rfl h.br
  ·have hsd1:sd.1=(i:Int):=hsdk;have ldk:∀{w:World},Ks.un [.int .i64] (((Ks.mk KS sd).drop (⟨n1,0⟩:Pt).o).take 1)=some (i:Int):=λ{w}=>by rw[←hsd1];rfl
   obtain⟨s1,s2,h⟩:=h.kv b X (eB X u.c r t) u.lv;refine aM h λw h=>ah (x:=(i:Int)) h (by rw[←hsd1];rfl) (ac ⟨by omega,?_⟩);rw[eX];refine ah h (I9 X u.c r t s1 s2 hi8) ?_;cases hf:u.fl i with
   |none=>
    obtain⟨q1,q2,q3⟩:=hq.none hi8 hf;rw[q1];refine ae (λ_=>?_) λc=>(by cases c);refine aM h λw h=>ah (x:=(i:Int)) h (by rw[←hsd1];rfl) (ac ⟨by omega,?_⟩);rw[eX];refine aA h b (eB X u.c r (pO t i true)++.sl s1::aY s2::mA X) rfl (iY (by show 1+57+i*1+1≤140;omega)) (HV X u.c r t s1 s2 hi8 true) λw h=>?_;refine aM h λw h=>ah (x:=(i:Int)) h (by rw[←hsd1];rfl) (ac (ah h rfl (ac ?_)));refine aA h b (eB X u.c (gq r i ((i:Int),cF u.c,0,0,0,⟨none,0,0⟩)) (pO t i true)++.sl s1::aY s2::mA X) rfl (iY (by show 1+9+i*6+6≤140;omega)) (OE X u.c r (pO t i true) s1 s2 hi8 ((i:Int),cF u.c,0,0,0,⟨none,0,0⟩)) λw h=>?_;have h:=h.dW b X (eB X u.c (gq r i ((i:Int),cF u.c,0,0,0,⟨none,0,0⟩)) (pO t i true)) s1 s2 u.lv;have h:=h.H2 r (fT u) hi8;have h:=h.nil KS;have hp:fx u i=0:=z8.2 ⟨λx=>(by
     obtain⟨f,hf2⟩:=hu.th i x;rw[hf]at hf2;cases hf2),λf hf2=>(by rw[hf]at hf2;cases hf2)⟩
    refine⟨trivial,(h.rA (f:=λx:RF×Fl=>af n1 (Ks.mk KS sd)^kv b X (eB X u.c (gq r i x.1) (pO t i true)) u.lv^aS (mg x.1) KS x.2.sg^eD (tU (rJ r (fT u)) i) 8) (((i:Int),cF u.c,0,0,0,⟨none,0,0⟩),⟨cF u.c,0,0,[]⟩) ⟨by rw[hp],?_⟩).br⟩;rw[aG hp];unfold fS;rw[hf]
   |some f=>
    obtain⟨q1,q2,q3⟩:=hq.some hi8 hf;have hUsi:=(hu.fl i f hf).2.si;rw[q1];refine ae (λc=>(by cases c)) λ_=>?_;have e2:(r i).2.2.1=fx u i:=by rw[q2]
    have e4:(r i).2.2.2.2.1=f.si:=(by rw[q2]);have e1:(r i).2.1=f.cr:=(by rw[q2]);have hid:∀qM,idle u i qM aj=(decide (fx u i=0)&&decide (bJ f.si qM≤aj)):=λqM=>by unfold idle;rw[hf]
    have h:=h.dW b X (eB X u.c r t) s1 s2 u.lv;refine aQ h (λ_=>af n1 (Ks.mk KS sd)^kv b X (eB X u.c r t) u.lv^eD (rJ r (fT u)) 8) (λy:Bool=>y=idle u i 40000000 aj) (λ(y:Bool) w hy h=>?_) ?_
    ·rw[hy];obtain⟨s1,s2,h⟩:=h.kv b X (eB X u.c r t) u.lv;have h:=h.H2 r (fT u) hi8;rw[q3]at h;refine ae (λc=>?_) λc=>?_
     ·refine aM h λw h=>ac (ac (ah h (DQ X u.c r t s1 s2 hi8) (ah h rfl (ac ?_))));rw[e1];refine aA h b (eB X u.c (gq r i ((i:Int),(if cQ u.c>f.cr then cQ u.c else f.cr),fx u i,f.nx,f.si,mg (r i))) t++.sl s1::aY s2::mA X) rfl (iY (by show 1+9+i*6+1+1≤140;omega)) (by
       have:=HU X u.c r t s1 s2 hi8 (if cQ u.c>f.cr then cQ u.c else f.cr);have e:((r i).1,(if cQ u.c>f.cr then cQ u.c else f.cr),(r i).2.2.1,(r i).2.2.2.1,(r i).2.2.2.2.1,(r i).2.2.2.2.2)=((i:Int),(if cQ u.c>f.cr then cQ u.c else f.cr),fx u i,f.nx,f.si,mg (r i)):=(by rw[q2]);rw[e]at this;exact this) λw h=>?_
      have h:=h.dW b X (eB X u.c (gq r i ((i:Int),(if cQ u.c>f.cr then cQ u.c else f.cr),fx u i,f.nx,f.si,mg (r i))) t) s1 s2 u.lv;rw[show eB X u.c (gq r i ((i:Int),(if cQ u.c>f.cr then cQ u.c else f.cr),fx u i,f.nx,f.si,mg (r i))) t=eB X u.c (gq r i ((i:Int),(if cQ u.c>f.cr then cQ u.c else f.cr),fx u i,f.nx,f.si,mg (r i))) (pO t i true) by rw[Pe q1]]at h;refine⟨trivial,(h.rA (f:=λx:RF×Fl=>af n1 (Ks.mk KS sd)^kv b X (eB X u.c (gq r i x.1) (pO t i true)) u.lv^aS (mg x.1) KS x.2.sg^eD (tU (rJ r (fT u)) i) 8) (((i:Int),(if cQ u.c>f.cr then cQ u.c else f.cr),fx u i,f.nx,f.si,mg (r i)),{f with cr:=if cQ u.c>f.cr then cQ u.c else f.cr}) ⟨rfl,?_⟩).br⟩;have hp:fx u i=0:=by
       rw[hid,d_,iZ]at c;exact c.1
      rw[aG hp];unfold fS;rw[hf];simp[hp,c]
     ·have h:=h.dW b X (eB X u.c r t) s1 s2 u.lv;have er:eB X u.c r t=eB X u.c (gq r i (r i)) (pO t i true):=(by rw[WI rfl,Pe q1]);rw[er]at h;refine⟨trivial,(h.rA (f:=λx:RF×Fl=>af n1 (Ks.mk KS sd)^kv b X (eB X u.c (gq r i x.1) (pO t i true)) u.lv^aS (mg x.1) KS x.2.sg^eD (tU (rJ r (fT u)) i) 8) (r i,f) ⟨q2,?_⟩).br⟩;unfold fS;rw[hf];by_cases hp:fx u i=0
      ·simp[hp,c]
      ·simp[hp]
    ·obtain⟨s1,s2,h⟩:=h.kv b X (eB X u.c r t) u.lv;refine ac (ah h (DR X u.c r t s1 s2 hi8) ?_);rw[e2];refine ae (λc=>?_) λc=>?_
     ·have hp:fx u i=0:=cC;refine ac (ah h (OC X u.c r t s1 s2 hi8) ?_);rw[e4];refine ar (fP f.si 40000000 hUsi (by unfold U;omega)) h λx w h=>?_;obtain⟨hx,h⟩:=h.aP;rw[hx];refine⟨?_,(h.dW b X (eB X u.c r t) s1 s2 u.lv).aI⟩;rw[hid];simp[hp]
     ·have hp:¬fx u i=0:=cC;refine⟨?_,(h.dW b X (eB X u.c r t) s1 s2 u.lv).aI⟩;rw[hid];simp[hp]
end JA

namespace SF
open bH bp ff lL lN fe xH A9 yM q_ Cs BE Ei fL Ij Jz PM JA WV
open eI (Sk cq cv eM io iO cZ bB dV)
open oS (nj qn)
open mV (py)
open yP (JG gN gF gS gA)
open JE (mr)
open TA (rf yE)
open WZ (AH Cq wD)
def DS(p:bO)(x:Option Sk):SP:=match x with
 |none=>bs (p=none) bg
 |some f=>xQ (λy:Nat×Int=>p=some ⟨y.1,0⟩∧rf y.2 f.cap f) (λy=>mr y.1 y.2 f.cap f)
instance(p:bO)(x:Option Sk):nl (DS p x):=by unfold DS;split<;>infer_instance
abbrev RZ(p:Nat→bO)(fl:Nat→Option Sk):Nat→SP:=λj=>DS (p j) (fl j)
abbrev qC(p:Nat→bO)(fl:Nat→Option Sk):SP:=eD (RZ p fl) 8
abbrev uh(p:Nat→bO)(fl:Nat→Option Sk)(i:Nat):SP:=eD (tU (RZ p fl) i) 8
def eZ(b:Nat)(v:Mc):SP:=xQ (λx:(Nat→Ct)×(Nat→bO)=>KL x.1 v.l∧v.q.c=v.c) (λx=>cM b ⟨v.aj,x.1,x.2⟩ v.q^qC x.2 v.so)
instance(b:Nat)(v:Mc):nl (eZ b v):=by unfold eZ;infer_instance
section
variable {w0 w:World} {S0 R0:Nat→Prop} {F G:SP}
theorem _root_.Go.X.au.eZ(h:au w0 S0 R0 w F)(b)[tk:ol SF.eZ b F v G]:∃(k:Nat→Ct) (p:Nat→bO),(KL k v.l∧v.q.c=v.c)∧au w0 S0 R0 w (cM b ⟨v.aj,k,p⟩ v.q^qC p v.so^G):=by
 obtain⟨x,hx,h⟩:=(h.le tk.le).uQ;exact⟨x.1,x.2,hx,h.aI⟩
theorem _root_.Go.X.au.lh(h:au w0 S0 R0 w F)(b k p v)(hk:KL k v.l∧v.q.c=v.c)[tk:Take (cM b ⟨v.aj,k,p⟩ v.q^qC p v.so) F G]:au w0 S0 R0 w (SF.eZ b v^G):=
 au.rA (f:=λx:(Nat→Ct)×(Nat→bO)=>cM b ⟨v.aj,x.1,x.2⟩ v.q^qC x.2 v.so) (φ:=λx=>KL x.1 v.l∧v.q.c=v.c) h (k,p) hk
theorem _root_.Go.X.au.I2(h:au w0 S0 R0 w F)(p fl)(hi:i<8)(hf:fl i=some f)[tk:Take (qC p fl) F G]:∃(a:Nat) (m0:Int),(p i=some ⟨a,0⟩∧rf m0 f.cap f)∧au w0 S0 R0 w (mr a m0 f.cap f^uh p fl i^G):=by
 have h:au w0 S0 R0 w ((DS (p i) (fl i)^uh p fl i)^G):=(h.le tk.le).le (bi (oW _ hi) Le.rfl);have h:=h.le (bZ _ _ _);rw[hf]at h;obtain⟨y,hy,h⟩:=au.uQ (φ:=λy:Nat×Int=>p i=some ⟨y.1,0⟩∧rf y.2 f.cap f) (f:=λy=>mr y.1 y.2 f.cap f) h;exact⟨y.1,y.2,hy,h⟩
theorem _root_.Go.X.au.Rz(h:au w0 S0 R0 w F)(p fl)(hi:i<8)(hf:fl i=none)[tk:Take (qC p fl) F G]:p i=none∧au w0 S0 R0 w (uh p fl i^G):=by
 have h:au w0 S0 R0 w ((DS (p i) (fl i)^uh p fl i)^G):=(h.le tk.le).le (bi (oW _ hi) Le.rfl);have h:=h.le (bZ _ _ _);rw[hf]at h;obtain⟨hp,h⟩:=au.aP (p:=p i=none) (A:=bg) h;exact⟨hp,h.drop⟩
theorem It(p q fl gl i)(hp:∀j,j≠i→q j=p j)(hf:∀j,j≠i→gl j=fl j):uh q gl i=uh p fl i:=im 8 λj _=>by
 unfold tU;split
 ·rfl
 ·rename_i e;show DS _ _=DS _ _;rw[hp j e,hf j e]
theorem _root_.Go.X.au.Rc(h:au w0 S0 R0 w F)(p fl)(hi:i<8)(q gl a)(m0:Int)(f)(hp:∀j,j≠i→q j=p j)(hf:∀j,j≠i→gl j=fl j)(hq:q i=some ⟨a,0⟩)(hg:gl i=some f)(hr:rf m0 f.cap f)[tk:Take (mr a m0 f.cap f^uh p fl i) F G]:au w0 S0 R0 w (qC q gl^G):=by
 have h:=(h.le tk.le).le (bZ _ _ _);have h:au w0 S0 R0 w (DS (q i) (gl i)^uh p fl i^G):=by
  rw[hg];exact h.rA (φ:=λy:Nat×Int=>q i=some ⟨y.1,0⟩∧rf y.2 f.cap f) (f:=λy=>mr y.1 y.2 f.cap f) (a,m0) ⟨hq,hr⟩
 rw[←It p q fl gl i hp hf]at h;exact(h.le (dh _ _ _)).le (bi (rX (RZ q gl) hi) Le.rfl)
theorem _root_.Go.X.au.aad(h:au w0 S0 R0 w F)(p fl)(hi:i<8)(q gl)(hp:∀j,j≠i→q j=p j)(hf:∀j,j≠i→gl j=fl j)(hq:q i=none)(hg:gl i=none)[tk:Take (uh p fl i) F G]:au w0 S0 R0 w (qC q gl^G):=by
 have h:=(h.le tk.le);have h:au w0 S0 R0 w (DS (q i) (gl i)^uh p fl i^G):=by
  rw[hg];exact au.i_ (p:=q i=none) (A:=bg) hq (h.le ((aJ _).trans (be _ _)))
 rw[←It p q fl gl i hp hf]at h;exact(h.le (dh _ _ _)).le (bi (rX (RZ q gl) hi) Le.rfl)
theorem aag(h:au w0 S0 R0 w F)(p fl)(hi:i<8)[tk:Take (qC p fl) F G]:(p i).isNone=(fl i).isNone:=by
 cases hf:fl i with
 |none=>rw[(h.Rz p fl hi hf).1];rfl
 |some f=>obtain⟨a,m0,ha,_⟩:=h.I2 p fl hi hf;rw[ha.1];rfl
variable {b:Nat} {X:Cx} {q:Qm}
theorem xG(h:au w0 S0 R0 w F)[tk:Take (cM b X q) F G]{K:Int→WP}(k:K X.aj w):ld [.int .u64] ⟨b,0⟩ K w:=by
 obtain⟨r,t,hq,h⟩:=(h.le tk.le).cM b X q;obtain⟨s1,s2,h⟩:=h.kv b X (eB X q.c r t) q.lv;exact ah h rfl k
theorem Pj(h:au w0 S0 R0 w F)[tk:Take (cM b X q) F G]{K:WP}(k:K w):ct ⟨b,0⟩ (Ks.mk [.int .u64] X.aj) K w:=by
 obtain⟨r,t,hq,h⟩:=(h.le tk.le).cM b X q;obtain⟨s1,s2,h⟩:=h.kv b X (eB X q.c r t) q.lv;exact aN h rfl k
theorem WL(h:au w0 S0 R0 w F)[tk:Take (cM b X q) F G]{K:Cf→WP}(k:K q.c w):ld KC ⟨b,0+1⟩ K w:=by
 obtain⟨r,t,hq,h⟩:=(h.le tk.le).cM b X q;obtain⟨s1,s2,h⟩:=h.kv b X (eB X q.c r t) q.lv;exact ah (x:=q.c) h rfl k
theorem Pn(h:au w0 S0 R0 w F)[tk:Take (cM b X q) F G]{i:Nat}(hi:i<8){K:bO→WP}(k:K (X.p i) w):ld [.ptr] ⟨b,0+132+i*1⟩ K w:=by
 obtain⟨r,t,hq,h⟩:=(h.le tk.le).cM b X q;obtain⟨s1,s2,h⟩:=h.kv b X (eB X q.c r t) q.lv;exact ah h (Yg X q.c r t s1 s2 hi) k
theorem Tq(h:au w0 S0 R0 w F)[tk:Take (cM b X q) F G]{i:Nat}(hi:i<8)(x:bO){K:WP}(k:∀w',au w0 S0 R0 w' (cM b {X with p:=gZ X.p i x} q^G)→K w'):st ⟨b,0+132+i*1⟩ [.ptr x] K w:=by
 obtain⟨r,t,hq,h⟩:=(h.le tk.le).cM b X q;obtain⟨s1,s2,h⟩:=h.kv b X (eB X q.c r t) q.lv;refine aA h b (mB {X with p:=gZ X.p i x} q.c r t s1 s2) rfl (iY (by show 0+132+i*1+1≤140;omega)) (Yh X q.c r t s1 s2 hi x) λw h=>?_;have h:=h.dW b {X with p:=gZ X.p i x} (eB {X with p:=gZ X.p i x} q.c r t) s1 s2 q.lv;exact k w (h.gn b {X with p:=gZ X.p i x} q r t hq).aI
end
theorem K9(b ap a:Nat)(k:Int)(X:Cx)(hn:U X.aj)(i:Nat)(x:Sk)(q:Qm)(l:Nat→Ct)(o:Ou)(m0:Int)(s0:Bh k i ⟨x,q,l,o⟩)(hr:rf m0 x.cap x)(hk:KL X.k l)(hl:o.dr.length≤999∧o.ft.length≤999):
  bu (Z3 (some ⟨b,0⟩) (some ⟨ap,0⟩) (some ⟨a,0⟩)) (cM b X q^mr ap m0 x.cap x^fJ a o)
   (λ_=>xQ (λy:Nat→Ct=>KL y (pj i X.aj ⟨x,q,l,o⟩).l∧rf m0 x.cap (pj i X.aj ⟨x,q,l,o⟩).v) (λy=>cM b {X with k:=y} (pj i X.aj ⟨x,q,l,o⟩).q^mr ap m0 x.cap (pj i X.aj ⟨x,q,l,o⟩).v^fJ a (pj i X.aj ⟨x,q,l,o⟩).o)):=
 bC λw0 S R h=>by
  obtain⟨e,he⟩:∃e,e=pj i X.aj ⟨x,q,l,o⟩:=⟨_,rfl⟩;rw[←he];obtain⟨c0,hc0⟩:∃c0,c0=x.cap:=⟨_,rfl⟩;rw[←hc0]at h hr⊢;have aI:∀{w:World} (s:Pm) (k1:Nat→Ct),s=e→KL k1 s.l→rf m0 c0 s.v→au w0 S R w (cM b {X with k:=k1} s.q^mr ap m0 c0 s.v^fJ a s.o^bg)→au w0 S R w (xQ (λy:Nat→Ct=>KL y e.l∧rf m0 c0 e.v) (λy=>cM b {X with k:=y} e.q^mr ap m0 c0 e.v^fJ a e.o)):=by
   intro w s k1 hs h1 h2 h;rw[←hs];exact(h.rA (f:=λy:Nat→Ct=>cM b {X with k:=y} s.q^mr ap m0 c0 s.v^fJ a s.o) (φ:=λy=>KL y s.l∧rf m0 c0 s.v) k1 ⟨h1,h2⟩).br
  have h:au w0 S R w0 (cM b {X with k:=X.k} q^mr ap m0 c0 x^fJ a o^bg):=h.aI;refine fY (λ(_:Unit) (s:Pm×(Nat→Ct))=>cM b {X with k:=s.2} s.1.q^mr ap m0 c0 s.1.v^fJ a s.1.o^bg) (λ_ s=>Bh k i s.1∧s.1.o=o∧(KL s.2 s.1.l∧rf m0 c0 s.1.v)∧∃n,fresh s.1.v<n∧na i X.aj n s.1=e) (λ_ s=>fresh s.1.v) (⟨x,q,l,o⟩,X.k) h ⟨s0,rfl,⟨hk,hr⟩,_,An _,he.symm⟩ ?_;rintro K (y:Unit) ⟨s,k1⟩ w ⟨hs,hso,⟨hk,hr⟩,n,hfn,hN⟩ h next
  dsimp only at hs hso hk hr hfn hN h;cases n with
  |zero=>omega
  |succ n=>
  unfold na at hN;refine ac (xG (b:=b) (X:={X with k:=k1}) (q:=s.q) h ?_);refine ar (AH ap hs.v.i.ok (qn hs.v.i.pc) hr X.aj hn) h λr w h=>?_;obtain⟨hr1,h⟩:=h.aP;rw[hr1];have hrE:=hr.emit X.aj;refine aD h λn7 w h=>az h (by rfl) λw h=>ae (λce=>?_) λce=>?_
  ·have ce:(cq s.v X.aj).1.2≠0:=(by simpa using ce);rw[aG ce]at hN;exact aI {s with v:=(cq s.v X.aj).2} k1 hN hk hrE h.aI
  ·have ce:(cq s.v X.aj).1.2=0:=(by simpa using ce);rw[ay (λc=>c ce)]at hN;obtain⟨hok,hless⟩:=zk hs hn ce;have hw:=yK hs.v hn ce;have hgs:=Ea hs.v hn ce;have hgn:=hw.n;obtain⟨g,hg⟩:∃g,g=(cq s.v X.aj).1.1:=⟨_,rfl⟩;obtain⟨v',hv'⟩:∃v',v'=(cq s.v X.aj).2:=⟨_,rfl⟩;have hiv:=sq hs.v hn;have een:enter i X.aj s=if(fG s.q g X.aj).1.1=0 then(⟨v',(fG s.q g X.aj).2,(gx s.l i 0).2,s.o⟩,0)
    else(⟨(cv v' g.2.2.1).2,(fG s.q g X.aj).2,(cy (gx s.l i 0).2 s.o g (fG s.q g X.aj).1.1).2,(cy (gx s.l i 0).2 s.o g (fG s.q g X.aj).1.1).1⟩,1):=by
    rw[hg,hv'];rfl
   rw[←hg]at hw hgs hgn;rw[←hv']at hiv hw hrE;rw[←hg,←hv']at h;have hid:v'.id=(i:Int):=hw.Bs.trans hs.id;have hgk:sK g=(i:Int):=hw.id.trans hs.id;refine aM h λw h=>aw (b:=n7) (x:=g) h rfl (ac (ac (xG (b:=b) (X:={X with k:=k1}) (q:=s.q) h ?_)));refine ar (Oo b {X with k:=k1} s.q hs.q g X.aj hgs hn) h λr w h=>?_;obtain⟨hr1,h⟩:=h.aP;rw[hr1];refine aM h λw h=>ac (ac (Cq (b:=ap) (m0:=m0) (c0:=c0) (v:=v') h ?_));rw[hid];refine ar (tz b {X with k:=k1} (fG s.q g X.aj).2 (i:Int) 0) h λr w h=>?_;have hk2:=hk.note (i:Int) 0;obtain⟨k2,hke2⟩:∃k2,k2=nG k1 (i:Int) 0:=⟨_,rfl⟩;rw[←hke2]at hk2;have h:au w0 S R w (cM b {X with k:=k2} (fG s.q g X.aj).2^mr ap m0 c0 v'^af n7 (Ks.mk KS g)^fJ a s.o^bg):=by rw[hke2];exact h.aI
   refine ae (λcf=>?_) λcf=>?_;rotate_left
   ·have cf:(fG s.q g X.aj).1.1=0:=(by simpa using cf);rw[aG cf]at een;rw[een]at hN hok hless;rw[aG rfl]at hN;have hless:fresh v'<fresh s.v:=hless;exact next () (⟨v',(fG s.q g X.aj).2,(gx s.l i 0).2,s.o⟩,k2) w ⟨hok,hso,⟨hk2,hrE⟩,n,by show fresh v'<n;omega,hN⟩ h.aI hless
   ·have cf:¬(fG s.q g X.aj).1.1=0:=(by simpa using cf);rw[ay cf]at een;rw[een]at hN hok hless;rw[ay (by show ¬(1:Int)=0;decide)]at hN;refine aM h λw h=>ac (ac (Cq (b:=ap) (m0:=m0) (c0:=c0) (v:=v') h ?_));rw[hid];obtain⟨f,hf⟩:∃f,f=(fG s.q g X.aj).1.1:=⟨_,rfl⟩;rw[←hf]at hN⊢;refine ar (tz b {X with k:=k2} (fG s.q g X.aj).2 (i:Int) f) h λr w h=>?_;have hk3:=hk2.note (i:Int) f;obtain⟨k3,hke3⟩:∃k3,k3=nG k2 (i:Int) f:=⟨_,rfl⟩;rw[←hke3]at hk3;obtain⟨s1,s2,s3,h⟩:=h.fJ a;have h:au w0 S R w (cM b {X with k:=k3} (fG s.q g X.aj).2^mr ap m0 c0 v'^af n7 (Ks.mk KS g)^af a [aY s1,aY s2,aY s3,aB s.o.wd]^aS s1 KS s.o.oo^aS s2 KS s.o.dr^aS s3 KI s.o.ft^bg):=(by rw[hke3];exact h.aI);have hl2:s.o.dr.length+[g].length≤4294967296:=(by have:=hl.1;rw[hso];simp only[mc];omega);have hl3:s.o.ft.length+[f].length≤4294967296:=(by have:=hl.2;rw[hso];simp only[mc];omega);have fin2:∀{w:World} {t2 t3:Sl},au w0 S R w (aS t3 KI (s.o.ft++[f])^aS t2 KS (s.o.dr++[g])^cM b {X with k:=k3} (fG s.q g X.aj).2^mr ap m0 c0 v'^af n7 (Ks.mk KS g)^af a [aY s1,aY s2,aY s3,aB s.o.wd]^aS s1 KS s.o.oo^bg)→
      (aC (some ⟨a,0⟩) λq15=>st ⟨q15.b,q15.o+1⟩ [aY t2]<|aC (some ⟨a,0⟩) λq16=>st ⟨q16.b,q16.o+2⟩ [aY t3]<|ld [.int .i64] ⟨n7,2⟩ λ(x31:Int)=>call Tryz.prog pS [.lf (.ptr (some ⟨ap,0⟩)),.lf (.int .i64 x31)] [.lf (.int .i64)] λ(_:Int)=>λw=>au w0 S R w (xQ (λy:Nat→Ct=>KL y e.l∧rf m0 c0 e.v) (λy=>cM b {X with k:=y} e.q^mr ap m0 c0 e.v^fJ a e.o))) w:=by
     intro w t2 t3 h;refine ac (aA h a [aY s1,aY t2,aY s3,aB s.o.wd] rfl rfl rfl λw h=>?_);refine ac (aA h a [aY s1,aY t2,aY t3,aB s.o.wd] rfl rfl rfl λw h=>?_);have h:=h.xc a s1 t2 t3 {s.o with dr:=s.o.dr++[g],ft:=s.o.ft++[f]};refine ah (x:=g.2.2.1) h rfl (ar (yE ap m0 c0 v' ⟨hiv.i.ok.out.1,by have:=hiv.i.o;omega⟩ g.2.2.1 (by show gN g<_;omega)) h λr w h=>?_);obtain⟨_,h⟩:=h.aP;have h:au w0 S R w (cM b {X with k:=k3} (fG s.q g X.aj).2^mr ap m0 c0 (cv v' g.2.2.1).2^fJ a {s.o with dr:=s.o.dr++[g],ft:=s.o.ft++[f]}^bg):=h.aI;refine aI ⟨(cv v' g.2.2.1).2,(fG s.q g X.aj).2,(cy (gx s.l i 0).2 s.o g f).2,(cy (gx s.l i 0).2 s.o g f).1⟩ k3 hN ?_ (hrE.done _) h;show KL k3 (gx (gx s.l i 0).2 (sK g) f).2;rw[hgk];exact hk3
    refine aM h λw h=>aw (b:=n7) (x:=g) h rfl (ac (ac (ah (x:=s2) h rfl (ah (x:=s3) h rfl (nr ?_ ?_)))))
    ·refine aD h λn11 w h=>aN h rfl (aN h rfl (nr ?_ ?_))
     ·have h:=h.co n11 KS [g] rfl (by simp);have h:au w0 S R w (aS ⟨some ⟨n11,0⟩,1,1⟩ KS [g]^_):=h;refine dF (K:=KS) (s:=s2) (xs:=s.o.dr) h rfl hl2 λt2 w _ h=>?_;refine aN h rfl (aD h λn13 w h=>aN h rfl (aN h rfl (aO (b:=n7) h ?_)));have h:=h.co n13 KI [f] rfl (by simp);have h:au w0 S R w (aS ⟨some ⟨n13,0⟩,1,1⟩ KI [f]^_):=h;refine dF (K:=KI) (s:=s3) (xs:=s.o.ft) h rfl hl3 λt3 w _ h=>?_;exact fin2 h.aI
     ·refine aD h λn17 w h=>aN h rfl (aN h rfl (aO (b:=n7) h ?_));have h:=h.co n11 KS [g] rfl (by simp);have h:au w0 S R w (aS ⟨some ⟨n11,0⟩,1,1⟩ KS [g]^_):=h;refine dF (K:=KS) (s:=s2) (xs:=s.o.dr) h rfl hl2 λt2 w _ h=>?_;refine aN h rfl ?_;have h:=h.co n17 KI [f] rfl (by simp);have h:au w0 S R w (aS ⟨some ⟨n17,0⟩,1,1⟩ KI [f]^_):=h;refine dF (K:=KI) (s:=s3) (xs:=s.o.ft) h rfl hl3 λt3 w _ h=>?_;exact fin2 h.aI
    ·refine aD h λn22 w h=>aN h rfl (aN h rfl (aO (b:=n7) h (aD h λn23 w h=>aN h rfl (aN h rfl ?_))));have h:=h.co n23 KS [g] rfl (by simp);have h:au w0 S R w (aS ⟨some ⟨n23,0⟩,1,1⟩ KS [g]^_):=h;refine dF (K:=KS) (s:=s2) (xs:=s.o.dr) h rfl hl2 λt2 w _ h=>?_;refine aN h rfl ?_;have h:=h.co n22 KI [f] rfl (by simp);have h:au w0 S R w (aS ⟨some ⟨n22,0⟩,1,1⟩ KI [f]^_):=h;refine dF (K:=KI) (s:=s3) (xs:=s.o.ft) h rfl hl3 λt3 w _ h=>?_;exact fin2 h.aI
end SF

namespace YE
open bH bp ff lL lN fe xH A9 yM q_ Cs BE Ei fL Ij Jz PM Ty JA WV SF
open eI (Sk cq cv eM io iO cZ bB dV)
open JE (mr)
open TA (rf)
open WZ (Cq wD)
theorem IG(aj:Int)(rates:List Int):∀(k:Nat) (v:Qm),(lX aj rates k v).2.c=v.c
 |0,_=>rfl
 |k+1,v=>by
  unfold lX
  (repeat' split)<;>first|rfl|exact IG aj rates k _
theorem XT(v)(aj:Int)(rates:List Int):(jW v aj rates).2.c=v.c:=IG aj rates _ _
theorem XX(q g)(t:Int):(fG q g t).2.c=q.c:=by
 unfold fG;split
 ·rfl
 ·split
  ·rfl
  ·split
   ·rw[lL.add_eq]
   ·rfl
theorem QT(q)(i:Int):(cO q i).2.c=q.c:=by unfold cO;(repeat' split)<;>rfl
theorem NR(i aj:Int):∀(n:Nat) (s:Pm),(na i aj n s).q.c=s.q.c
 |0,_=>rfl
 |n+1,s=>by
  have e:(enter i aj s).1.q.c=s.q.c:=by unfold enter;dsimp only;split<;>exact XX _ _ _
  unfold na;split
  ·rfl
  ·split
   ·rw[NR i aj n,e]
   ·exact e
abbrev zO:List Lf:=[aY ⟨none,0,0⟩,aY ⟨none,0,0⟩,aY ⟨none,0,0⟩,aB 0]
theorem _root_.Go.X.au.sB(h:au w0 S0 R0 w F)(r o)(hr:r.2.2.2=o.wd)[tk:Take (aS r.1 KS o.oo^aS r.2.1 KS o.dr^aS r.2.2.1 q_.KI o.ft) F G]:au w0 S0 R0 w (nq r o^G):=au.i_ (p:=r.2.2.2=o.wd) (A:=aS r.1 KS o.oo^aS r.2.1 KS o.dr^aS r.2.2.1 q_.KI o.ft) hr (h.le tk.le)
def HT(b n1 n20:Nat)(is:Bool)(R:Ks.T fm→WP):WP:=
 aq is (
 bR<|
 aC (some ⟨b,0⟩) λq21=>
 ld [.int .i64] ⟨n20,0⟩ λ(x22:Int)=>
 call Tryz.prog pA [.lf (.ptr (some ⟨q21.b,q21.o+68⟩)),.lf (.int .i64 x22),.lf (.int .i64 (1:Int))] [.lf (.int .i64)] λ(r23:Int)=>
 ld KS ⟨n20,0⟩ λ(x24:Sg)=>
 new [aE x24.1,aB x24.2.1,aE x24.2.2.1,aB x24.2.2.2.1,bc x24.2.2.2.2] λn25=>
 st ⟨n1,0⟩ [aY ⟨some ⟨n25,0⟩,1,1⟩,aY ⟨none,0,0⟩,aY ⟨none,0,0⟩,aB (0:Int)]<|
 ld fm ⟨n1,0⟩ λ(x26:Ks.T fm)=>
 R x26)<|
 aC (some ⟨b,0⟩) λq27=>
 call Tryz.prog nk [.lf (.ptr (some ⟨q27.b,q27.o+1⟩))] [.lf (.int .u64),.lf .bool] λ(r28:Int×Bool)=>
 aq (!r28.2) (
 st ⟨n1,0⟩ [aY ⟨none,0,0⟩,aY ⟨none,0,0⟩,aY ⟨none,0,0⟩,aB (0:Int)]<|
 ld fm ⟨n1,0⟩ λ(x29:Ks.T fm)=>
 R x29)<|
 st ⟨n1,0⟩ [aY ⟨none,0,0⟩,aY ⟨none,0,0⟩,aY ⟨none,0,0⟩,aB (if r28.1>(1:Int)then r28.1 else(1:Int))]<|
 ld fm ⟨n1,0⟩ λ(x30:Ks.T fm)=>
 R x30
theorem Po{w0 w:World}{S0 R0:Nat→Prop}{G:SP}{R:Ks.T fm→WP}{b n1 n20:Nat}{k:Nat→Ct}{p:Nat→bO}{v:Mc}(hk:KL k v.l)(hq:jv (jW v.q v.aj (b_ v.so)).2)
  (h:au w0 S0 R0 w (af n20 (Ks.mk KS (xI.Bu (jW v.q v.aj (b_ v.so)).1).1)^cM b ⟨v.aj,k,p⟩ (jW v.q v.aj (b_ v.so)).2^af n1 zO^G))
  (aI:∀(w':World) (r:Ks.T fm) (k':Nat→Ct) (q':Qm) (l':Nat→Ct) (o':Ou),fN v fk=(o',{v with q:=q',l:=l'})→q'=(jW v.q v.aj (b_ v.so)).2→KL k' l'→au w0 S0 R0 w' (nq r o'^cM b ⟨v.aj,k',p⟩ q'^G)→R r w'):HT b n1 n20 (xI.Bu (jW v.q v.aj (b_ v.so)).1).2 R w:=by
 unfold HT;cases hd:jW v.q v.aj (b_ v.so)with
 |mk x q'=>
 rw[hd]at h hq aI;dsimp only at h hq aI⊢;cases x with
 |some s=>
  have e:fN v fk=(⟨[s],[],[],0⟩,{v with q:=q',l:=(gx v.l (sK s) 1).2}):=by unfold fN;rw[hd]
  refine ae (λ_=>?_) λc=>(by cases c);refine aM h λw h=>ac (ah (x:=sK s) h rfl (ar (tz b ⟨v.aj,k,p⟩ q' (sK s) 1) h λr w h=>?_));refine aw (b:=n20) (x:=s) h rfl (aD h λn25 w h=>?_);have h:=h.co n25 KS [s] rfl (by simp);have h:au w0 S0 R0 w (aS ⟨some ⟨n25,0⟩,1,1⟩ KS [s]^_):=h;refine az h (by rfl) λw h=>aw (b:=n1) (x:=((⟨some ⟨n25,0⟩,1,1⟩,⟨none,0,0⟩,⟨none,0,0⟩,0):Ks.T fm)) h rfl ?_;have h:=h.nil KS;have h:=h.nil q_.KI;have h:=h.sB (⟨some ⟨n25,0⟩,1,1⟩,⟨none,0,0⟩,⟨none,0,0⟩,0) ⟨[s],[],[],0⟩ rfl;exact aI w _ (nG k (sK s) 1) q' _ _ e rfl (hk.note _ _) h.aI
 |none=>
  refine ae (λc=>(by cases c)) λ_=>?_;refine ac (aK (Om b ⟨v.aj,k,p⟩ q' hq) h λw h=>?_);dsimp only;have h:=h.nil KS;have h:=h.nil KS;have h:=h.nil q_.KI;refine ae (λc=>?_) λc=>?_
  ·have c:¬(nW q'.ks).2=true:=(by rw[Bool.not_eq_true];simpa using c);have e:fN v fk=(fk,{v with q:=q',l:=v.l}):=(by unfold fN;rw[hd];dsimp only;rw[if_neg c]);refine az h (by rfl) λw h=>aw (b:=n1) (x:=((⟨none,0,0⟩,⟨none,0,0⟩,⟨none,0,0⟩,0):Ks.T fm)) h rfl ?_;have h:=h.sB (⟨none,0,0⟩,⟨none,0,0⟩,⟨none,0,0⟩,0) fk rfl;exact aI w _ k q' _ _ e rfl hk h.aI
  ·have c:(nW q'.ks).2=true:=cC;obtain⟨y,hy⟩:∃y:Int,y=if(nW q'.ks).1.1>(1:Int)then(nW q'.ks).1.1 else(1:Int):=⟨_,rfl⟩
   have e:fN v fk=(⟨[],[],[],y⟩,{v with q:=q',l:=v.l}):=by
    unfold fN;rw[hd];dsimp only;rw[if_pos c,hy]
    congr 2
    split<;>split<;>omega
   rw[←hy];refine az h (by rfl) λw h=>aw (b:=n1) (x:=((⟨none,0,0⟩,⟨none,0,0⟩,⟨none,0,0⟩,y):Ks.T fm)) h rfl ?_;have h:=h.sB (⟨none,0,0⟩,⟨none,0,0⟩,⟨none,0,0⟩,y) ⟨[],[],[],y⟩ rfl;exact aI w _ k q' _ _ e rfl hk h.aI
theorem K7(b)(kk:Int)(v)(hv:jS kk v):bu (ZN (some ⟨b,0⟩)) (eZ b v) (λr=>eZ b (fN v fk).2^nq r (fN v fk).1):=
 bC λw0 S R h=>by
  obtain⟨k,p,⟨hk,hqc⟩,h⟩:=(h.le (aJ _)).eZ b;refine aD h λn1 w h=>?_;have h:=h.nil KU;have h:=h.eN (s:=⟨none,0,0⟩) (K:=KU) (ys:=(b_ v.so).take (0:Int).toNat) rfl;have h:au w0 S R w (aS ⟨none,0,0⟩ KU ((b_ v.so).take (0:Int).toNat)^cM b ⟨v.aj,k,p⟩ v.q^qC p v.so^af n1 zO^bg):=h.aI;refine fY (λ(y:Sl×Int) (_:Unit)=>aS y.1 KU ((b_ v.so).take y.2.toNat)^cM b ⟨v.aj,k,p⟩ v.q^qC p v.so^af n1 zO^bg) (λ(y:Sl×Int) _=>0≤y.2∧y.2≤8) (λ(y:Sl×Int) _=>(8-y.2).toNat) () h ⟨by decide,by decide⟩ ?_;rintro K (y:Sl×Int) _ w ⟨h0,h1⟩ h next
  obtain⟨s,i⟩:=y;dsimp only at h0 h1 h⊢;refine ae (λc=>?_) λc=>?_
  ·have c:i<8:=bV c;have hi8:i.toNat<8:=(by omega);have hwi:i64.wrap (i+1)=i+1:=gi;have hin:(i+1).toNat=i.toNat+1:=(by omega);rw[hwi];have hlen:((b_ v.so).take i.toNat).length=i.toNat:=(by rw[fO];show min i.toNat 8=_;omega);refine aQ h (λ_=>aS s KU ((b_ v.so).take i.toNat)^cM b ⟨v.aj,k,p⟩ v.q^qC p v.so^af n1 zO^bg) (λr:Int=>r=qz (v.so i.toNat)) (λ(r:Int) w hr h=>?_) ?_
   ·refine aD h λn9 w h=>?_;have h:=h.co n9 KU [r] rfl (by simp);have h:au w0 S R w (aS ⟨some ⟨n9,0⟩,1,1⟩ KU [r]^_):=h;refine dF (K:=KU) (s:=s) (xs:=(b_ v.so).take i.toNat) h rfl (by rw[hlen];simp only[mc];omega) λs' w _ h=>?_;have e:(b_ v.so).take i.toNat++[r]=(b_ v.so).take (i+1).toNat:=by rw[hin,lC,AB v.so hi8,hr];rfl
    rw[e]at h;exact next (s',i+1) () w ⟨by show 0≤i+1;omega,by show i+1≤8;omega⟩ h.aI (by show(8-(i+1)).toNat<(8-i).toNat;omega)
   ·refine ac ⟨⟨h0,c⟩,Pn (b:=b) (X:=⟨v.aj,k,p⟩) (q:=v.q) h hi8 ?_⟩;dsimp only;cases hs:v.so i.toNat with
    |none=>
     obtain⟨hp,_⟩:=h.Rz p v.so hi8 hs;rw[hp];exact ae (λc=>(by simp at c)) λ_=>⟨rfl,h⟩
    |some x=>
     obtain⟨a,m0,⟨hp,hr⟩,h⟩:=h.I2 p v.so hi8 hs;rw[hp];refine ae (λ_=>?_) λc=>(by simp at c);refine ac ⟨⟨h0,c⟩,Pn (b:=b) (X:=⟨v.aj,k,p⟩) (q:=v.q) h hi8 ?_⟩;dsimp only;rw[hp];refine ac (wD (b:=a) (m0:=m0) (c0:=x.cap) (v:=x) h ?_);have h:=h.Rc p v.so hi8 p v.so a m0 x (λ_ _=>rfl) (λ_ _=>rfl) hp hs hr;exact⟨rfl,h.aI⟩
  ·have c:¬i<8:=bY c;have e:(b_ v.so).take i.toNat=b_ v.so:=jZ (by show 8≤i.toNat;omega);rw[e]at h;have hU:=DL hv;have hok:=Lt.MB hv.q hv.un hU;have aI:∀{w:World} {n20:Nat},au w0 S R w (af n20 (Ks.mk KS (xI.Bu (jW v.q v.aj (b_ v.so)).1).1)^cM b ⟨v.aj,k,p⟩ (jW v.q v.aj (b_ v.so)).2^af n1 zO^qC p v.so^bg)→HT b n1 n20 (xI.Bu (jW v.q v.aj (b_ v.so)).1).2 (λr w=>au w0 S R w (eZ b (fN v fk).2^nq r (fN v fk).1)) w:=λ{w n20} h=>Po hk hok h λw' r k' q' l' o' he hq' hk' h=>by
    rw[he];have h:=h.lh b k' p {v with q:=q',l:=l'} ⟨hk',by show q'.c=v.c;rw[hq',XT];exact hqc⟩;exact h.aI
   refine aM h λw h=>ac (ac (xG (b:=b) (X:=⟨v.aj,k,p⟩) (q:=v.q) h (nr ?_ ?_)))
   ·refine bP (A:=cM b ⟨v.aj,k,p⟩ v.q) (Q:=aV s KU (b_ v.so)) (FK b ⟨v.aj,k,p⟩ v.q hv.q v.aj hv.un s (b_ v.so) hU) h λr w h=>?_;obtain⟨hr,h⟩:=h.aP;rw[hr];refine aD h λn20 w h=>Pj (b:=b) (X:=⟨v.aj,k,p⟩) (q:=(jW v.q v.aj (b_ v.so)).2) h (az h (by rfl) λw h=>?_);exact aI h.aI
   ·refine aD h λn31 w h=>Pj (b:=b) (X:=⟨v.aj,k,p⟩) (q:=v.q) h ?_;refine bP (A:=cM b ⟨v.aj,k,p⟩ v.q) (Q:=aV s KU (b_ v.so)) (FK b ⟨v.aj,k,p⟩ v.q hv.q v.aj hv.un s (b_ v.so) hU) h λr w h=>?_;obtain⟨hr,h⟩:=h.aP;rw[hr];refine az h (by rfl) λw h=>?_;exact aI h.aI
end YE

namespace Zd
open bH bp ff lL lN fe xH A9 yM q_ Cs BE Ei fL Ij Jz PM Ty JA WV SF YE
open eI (Sk cq cv eM io iO cZ bB dV)
open JE (mr Ci)
open Zf (FH)
open TA (rf yE Ja Cm)
open WZ (Cq wD)
open mV (py)
theorem Q2(l o a):(dj l o a).1=⟨o.oo,o.dr++a,(dj l o a).1.ft,o.wd⟩:=by
 induction a generalizing l o with
 |nil=>show o=⟨o.oo,o.dr++[],o.ft,o.wd⟩;rw[rn]
 |cons x a ih=>
  show(dj (cy l o x 5).2 (cy l o x 5).1 a).1=⟨o.oo,o.dr++x::a,(dj (cy l o x 5).2 (cy l o x 5).1 a).1.ft,o.wd⟩;rw[ih];show(⟨o.oo,(o.dr++[x])++a,_,o.wd⟩:Ou)=_;rw[jF];rfl
theorem QU(hv:jv v)(i:Nat):∀s∈(cO v (i:Int)).1,sK s=(i:Int):=by
 intro s hs;unfold cO at hs;split at hs
 ·cases hs
 ·rw[eX]at hs;split at hs
  ·cases hs
  ·rename_i f hf;exact((hv.fl i f hf).2.sg s hs).1
theorem DM(b:Nat)(kk:Int)(v:Mc)(hv:jS kk v)(i:Nat)(hi:i<8):bu (Z0 (some ⟨b,0⟩) (i:Int)) (eZ b v) (λr=>eZ b (oD v i fk).2^nq r (oD v i fk).1):=
 bC λw0 S R h=>by
  obtain⟨k,p,⟨hk,hqc⟩,h⟩:=(h.le (aJ _)).eZ b;have h:au w0 S R w0 (uh p v.so i^cM b ⟨v.aj,k,p⟩ v.q^bg):=by
   cases hs:v.so i with
   |none=>exact(h.Rz p v.so hi hs).2.aI
   |some x=>obtain⟨ap,m0,_,h⟩:=h.I2 p v.so hi hs;exact h.drop.aI
  refine aD h λn1 w h=>aD h λn2 w h=>ac ⟨by omega,?_⟩;rw[eX];refine Tq (b:=b) (X:=⟨v.aj,k,p⟩) (q:=v.q) h hi none λw h=>?_;have h:=h.aad p v.so hi (gZ p i none) (gZ v.so i none) (λj hj=>ki p none hj) (λj hj=>ki v.so none hj) (fu p i none) (fu v.so i none);refine ac (ar (HG b ⟨v.aj,k,gZ p i none⟩ v.q hv.q (i:Int)) h λr w h=>?_);have hck:=QU hv.q i;obtain⟨cl,hcl⟩:∃cl,cl=(cO v.q (i:Int)).1:=⟨_,rfl⟩;have hcn:cl.length≤512:=by rw[hcl];exact wT hv.q i
  have hrl:=(h.rd (s:=r)).2;rw[←hcl]at hrl h hck;refine aA h n2 [aY ⟨none,0,0⟩,aY r,aY ⟨none,0,0⟩,aB 0] rfl rfl rfl λw h=>?_;have h:=h.nil q_.KI;have h:=h.eN (s:=⟨none,0,0⟩) (K:=q_.KI) (ys:=(dj v.l fk (cl.take (0:Int).toNat)).1.ft) rfl;have h:au w0 S R w (aS ⟨none,0,0⟩ q_.KI (dj v.l fk (cl.take (0:Int).toNat)).1.ft^af n2 [aY ⟨none,0,0⟩,aY r,aY ⟨none,0,0⟩,aB 0]^cM b ⟨v.aj,k,gZ p i none⟩ (cO v.q (i:Int)).2^qC (gZ p i none) (gZ v.so i none)^aS r KS cl^af n1 zO^bg):=h.aI;refine fY (λ(y:Int) (x:(Nat→Ct)×Sl)=>aS x.2 q_.KI (dj v.l fk (cl.take y.toNat)).1.ft^af n2 [aY ⟨none,0,0⟩,aY r,aY x.2,aB 0]^cM b ⟨v.aj,x.1,gZ p i none⟩ (cO v.q (i:Int)).2^qC (gZ p i none) (gZ v.so i none)^aS r KS cl^af n1 zO^bg) (λ(y:Int) x=>(0≤y∧y≤cl.length)∧KL x.1 (dj v.l fk (cl.take y.toNat)).2) (λ(y:Int) _=>(cl.length-y.toNat)) (k,⟨none,0,0⟩) h ⟨⟨by decide,by omega⟩,hk⟩ ?_;rintro K (y:Int) ⟨k1,s3⟩ w ⟨⟨h0,h1⟩,hk1⟩ h next
  dsimp only at hk1 h;refine ah (x:=r) h rfl (ae (λc=>?_) λc=>?_)
  ·have c:y<((r.len:Nat):Int):=bV c;have hy:y.toNat<cl.length:=(by omega);have hwi:i64.wrap (y+1)=y+1:=gi;have hin:(y+1).toNat=y.toNat+1:=(by omega);obtain⟨s,hs⟩:∃s,cl[y.toNat]?=some s:=⟨_,jx hy⟩;obtain⟨d1,d2⟩:=wY v.l fk (cl.take y.toNat);have dt:(cl.take y.toNat).length≤512:=(by rw[fO];omega);have e:dj v.l fk (cl.take (y+1).toNat)=cy (dj v.l fk (cl.take y.toNat)).2 (dj v.l fk (cl.take y.toNat)).1 s 5:=(by rw[hin,lC,hs];exact BO _ _ _ _);refine ac (ar (tz b ⟨v.aj,k1,gZ p i none⟩ (cO v.q (i:Int)).2 (i:Int) 5) h λ_ w h=>?_);refine ah (x:=s3) h rfl (aD h λn12 w h=>?_);have h:=h.co n12 q_.KI [5] rfl (by simp);have h:au w0 S R w (aS ⟨some ⟨n12,0⟩,1,1⟩ q_.KI [5]^_):=h;have h0l:fk.ft.length=0:=rfl;refine dF (K:=q_.KI) (s:=s3) (xs:=(dj v.l fk (cl.take y.toNat)).1.ft) h rfl (by rw[d2];show fk.ft.length+_+1≤_;omega) λt3 w _ h=>?_;refine aA h n2 [aY ⟨none,0,0⟩,aY r,aY t3,aB 0] rfl rfl rfl λw h=>?_;have h:=h.eN (s:=t3) (K:=q_.KI) (ys:=(dj v.l fk (cl.take (y+1).toNat)).1.ft) (by rw[e];rfl);rw[hwi];refine next (y+1) (nG k1 (i:Int) 5,t3) w ⟨⟨by omega,by omega⟩,?_⟩ h.aI (by show cl.length-(y+1).toNat<cl.length-y.toNat;omega)
   have hks:=hk1.note (i:Int) 5;rw[e];show KL _ (gx _ (sK s) 5).2;rw[hck s (gI hs)];exact hks
  ·have c:¬y<((r.len:Nat):Int):=bY c;rw[jZ (by omega)]at h hk1;refine aw (b:=n2) (x:=((⟨none,0,0⟩,r,s3,0):Ks.T fm)) h rfl (az h (by rfl) λw h=>aw (b:=n1) (x:=((⟨none,0,0⟩,r,s3,0):Ks.T fm)) h rfl ?_);have h:=h.nil KS;have h:=h.sB (⟨none,0,0⟩,r,s3,0) ⟨[],cl,(dj v.l fk cl).1.ft,0⟩ rfl;have e2:(dj v.l fk cl).1=⟨[],cl,(dj v.l fk cl).1.ft,0⟩:=Q2 v.l fk cl;have h:=h.lh b k1 (gZ p i none) {v with so:=gZ v.so i none,q:=(cO v.q (i:Int)).2,l:=(dj v.l fk cl).2} ⟨hk1,(QT v.q i).trans hqc⟩;rw[show oD v i fk=(⟨[],cl,(dj v.l fk cl).1.ft,0⟩,{v with so:=gZ v.so i none,q:=(cO v.q (i:Int)).2,l:=(dj v.l fk cl).2}) by unfold oD;rw[←hcl,←e2]];exact h.aI
theorem WC{m0 c0:Int}(h:rf m0 c0 x)(aj:Int)(d)(xs:List (Int×Int)):rf m0 c0 (dJ x aj d xs).2:=by
 unfold dJ;split
 ·exact h.write _
 ·split
  ·exact h.Ep _ _ _
  ·split
   ·exact h.yh _
   ·exact h.done _
theorem Yb(id:Int)(c):rf (eU c) (dZ c) (iO id (eU c) (dZ c)):=⟨rfl,rfl,rfl⟩
theorem Lb(b)(kk:Int)(v)(hv:jS kk v)(hkk:kk<1000000)(d)(hd:JD d)(xs)(hxl:xs.length≤4294967296):
  bu (ZM (some ⟨b,0⟩) d) (eZ b v^aV (dR d) KR xs) (λr=>bs (r.2=(jf v d xs fk).1) (eZ b (jf v d xs fk).2.2^nq r.1 (jf v d xs fk).2.1)):=
 bC λw0 S R h=>by
  refine aD (h.le (aJ _)) λn1 w h=>aD h λn2 w h=>?_;have h:au w0 S R w (af n1 (Ks.mk KD d)^af n2 zO^eZ b v^aV (dR d) KR xs^bg):=h.aI;have done:∀{w:World} (e:Int),jf v d xs fk=(e,fk,v)→au w0 S R w (af n2 zO^eZ b v^bg)→(st ⟨n2,0⟩ zO<|ld fm ⟨n2,0⟩ λ(x:Ks.T fm)=>(λ(r:Ks.T fm×Int) w=>au w0 S R w (bs (r.2=(jf v d xs fk).1) (eZ b (jf v d xs fk).2.2^nq r.1 (jf v d xs fk).2.1))) (x,e)) w:=by
   intro w e he h;rw[he];refine az h (by rfl) λw h=>aw (b:=n2) (x:=((⟨none,0,0⟩,⟨none,0,0⟩,⟨none,0,0⟩,0):Ks.T fm)) h rfl ?_;have h:=h.nil KS;have h:=h.nil KS;have h:=h.nil q_.KI;have h:=h.sB (⟨none,0,0⟩,⟨none,0,0⟩,⟨none,0,0⟩,0) fk rfl;exact au.aH rfl h.aI
  refine aQ h (λ_=>af n1 (Ks.mk KD d)^af n2 zO^eZ b v^aV (dR d) KR xs^bg) (λ_=>0≤dS d∧dS d<8) (λ_ w c h=>?_) ?_;rotate_left
  ·have bad:¬(0≤dS d∧dS d<8)→jf v d xs fk=(8,fk,v):=λc=>by unfold jf;rw[aG c]
   refine ah (x:=dS d) h rfl (ae (λc=>?_) λc=>?_)
   ·have c:dS d<0:=bV c;exact done 8 (bad (by omega)) h.aI
   ·have c:¬dS d<0:=bY c;refine ah (x:=dS d) h rfl (ae (λc2=>?_) λc2=>?_)
    ·have c2:dS d≥8:=bV c2;exact done 8 (bad (by omega)) h.aI
    ·have c2:¬dS d≥8:=bY c2;exact⟨by omega,h⟩
  obtain⟨i,hi⟩:∃i:Nat,dS d=(i:Int):=⟨(dS d).toNat,by omega⟩;have hi8:i<8:=by omega
  have eit:((i:Nat):Int).toNat=i:=eX i;have hone:jf v d xs fk=match v.so i with
    |none=>if dK d=1 then(0,fk,{v with so:=gZ v.so i (some (iO (i:Int) (eU v.c) (dZ v.c)))})else(10,fk,v)
    |some x=>if dK d=1 then(9,fk,v)else if dK d=9 then(0,(oD v i fk).1,(oD v i fk).2)
     else if(dJ x v.aj d xs).1=0 then(0,(mC v i (dJ x v.aj d xs).2 fk).1,(mC v i (dJ x v.aj d xs).2 fk).2)
     else((dJ x v.aj d xs).1,fk,{v with so:=gZ v.so i (some (dJ x v.aj d xs).2)}):=by
   unfold jf;first
    |(rw[ay (λhh=>hh c),hi,eit];cases v.so i<;>rfl)
    |rw[ay (λhh=>hh c),hi,eit]
  refine aM h λw h=>?_;obtain⟨k,p,⟨hk,hqc⟩,h⟩:=h.eZ b;have hsn:=aag h p v.so hi8;refine ah (x:=dS d) h rfl (ac ⟨c,?_⟩);rw[hi,eit];refine Pn (b:=b) (X:=⟨v.aj,k,p⟩) (q:=v.q) h hi8 (ah (x:=dK d) h rfl ?_);dsimp only;refine ae (λc1=>?_) λc1=>?_
  ·have c1:dK d=1:=(by simpa using c1);cases hs:v.so i with
   |some x=>
    rw[hs]at hsn hone;dsimp only at hone;rw[aG c1]at hone;refine ae (λ_=>?_) λcc=>(by rw[hsn]at cc;simp at cc);have h:=h.lh b k p v ⟨hk,hqc⟩;exact done 9 hone h.aI
   |none=>
    rw[hs]at hsn hone;dsimp only at hone;rw[aG c1]at hone;rw[hone];refine ae (λcc=>(by rw[hsn]at cc;simp at cc)) λ_=>?_;refine aM h λw h=>ah (x:=dS d) h rfl (ah (x:=dS d) h rfl (ac (ac (WL (b:=b) (X:=⟨v.aj,k,p⟩) (q:=v.q) h ?_))));rw[hi,hqc];refine ar (Cm (i:Int) v.c (by have:=hv.c.bt;show eU v.c<_;omega)) (h.le ((aJ _).trans (be _ _))) λr w h=>?_;obtain⟨ap,h⟩:=h.lV;obtain⟨hr,h⟩:=h.aP;rw[hr];have h:au w0 S R w (mr ap (eU v.c) (dZ v.c) (iO (i:Int) (eU v.c) (dZ v.c))^af n1 (Ks.mk KD d)^af n2 zO^cM b ⟨v.aj,k,p⟩ v.q^qC p v.so^bg):=h.aI;have h:au w0 S R w (mr ap (eU v.c) (iO (i:Int) (eU v.c) (dZ v.c)).cap (iO (i:Int) (eU v.c) (dZ v.c))^af n1 (Ks.mk KD d)^af n2 zO^cM b ⟨v.aj,k,p⟩ v.q^qC p v.so^bg):=h;refine aN h (by show [Lf.int i64 (dS d)]=_;rw[hi];rfl) ⟨by omega,?_⟩;rw[eit];obtain⟨_,h⟩:=h.Rz p v.so hi8 hs;refine Tq (b:=b) (X:=⟨v.aj,k,p⟩) (q:=v.q) h hi8 (some ⟨ap,0⟩) λw h=>?_;have h:=h.Rc p v.so hi8 (gZ p i (some ⟨ap,0⟩)) (gZ v.so i (some (iO (i:Int) (eU v.c) (dZ v.c)))) ap (eU v.c) (iO (i:Int) (eU v.c) (dZ v.c)) (λj hj=>ki p _ hj) (λj hj=>ki v.so _ hj) (fu p i _) (fu v.so i _) (Yb (i:Int) v.c);have h:=h.lh b k (gZ p i (some ⟨ap,0⟩)) {v with so:=gZ v.so i (some (iO (i:Int) (eU v.c) (dZ v.c)))} ⟨hk,hqc⟩;refine az h (by rfl) λw h=>aw (b:=n2) (x:=((⟨none,0,0⟩,⟨none,0,0⟩,⟨none,0,0⟩,0):Ks.T fm)) h rfl ?_;have h:=h.nil KS;have h:=h.nil KS;have h:=h.nil q_.KI;have h:=h.sB (⟨none,0,0⟩,⟨none,0,0⟩,⟨none,0,0⟩,0) fk rfl;exact au.aH rfl h.aI
  have c1:¬dK d=1:=by simpa using c1
  cases hs:v.so i with
  |none=>
   rw[hs]at hsn hone;dsimp only at hone;rw[ay c1]at hone;refine ae (λ_=>?_) λcc=>(by rw[hsn]at cc;simp at cc);have h:=h.lh b k p v ⟨hk,hqc⟩;exact done 10 hone h.aI
  |some x=>
   obtain⟨hx,hid,_⟩:=hv.so i x hs;rw[hs]at hsn hone;dsimp only at hone;rw[ay c1]at hone;refine ae (λcc=>(by rw[hsn]at cc;simp at cc)) λ_=>ah (x:=dK d) h rfl (ae (λc9=>?_) λc9=>?_)
   ·have c9:dK d=9:=(by simpa using c9);rw[aG c9]at hone;rw[hone];have h:=h.lh b k p v ⟨hk,hqc⟩;refine ah (x:=dS d) h rfl ?_;rw[hi];refine ar (DM b kk v hv i hi8) h λr w h=>?_;refine az h (by rfl) λw h=>aw (b:=n2) (x:=(r:Ks.T fm)) h rfl ?_;exact au.aH rfl h.aI
   have c9:¬dK d=9:=(by simpa using c9);rw[ay c9]at hone;obtain⟨ap,m0,⟨hp,hr⟩,h⟩:=h.I2 p v.so hi8 hs;obtain⟨hx2,hid2⟩:=qY hx hkk hv.un d xs;have hr2:=WC hr v.aj d xs;rw[hp];have h:au w0 S R w (af n1 (Ks.mk KD d)^af n2 zO^cM b ⟨v.aj,k,p⟩ v.q^mr ap m0 x.cap x^uh p v.so i^aV (dR d) KR xs^bg):=h.aI;refine aQ h (λ_=>af n1 (Ks.mk KD d)^af n2 zO^cM b ⟨v.aj,k,p⟩ v.q^mr ap m0 x.cap (dJ x v.aj d xs).2^uh p v.so i^bg) (λy:Int=>y=(dJ x v.aj d xs).1) (λ(y:Int) w hy h=>?_) ?_;rotate_left
   ·refine ah (x:=dK d) h rfl (ae (λc2=>?_) λc2=>?_)
    ·have c2:dK d=2:=gK;refine aM h λw h=>ac (ah (x:=dL d) h rfl (ar (Ja ap m0 x.cap x hx.i.ok.bf hr.l (by have:=hx.i.w;have:=hx.kr;omega) (dL d) hd.l) h λr w h=>?_));obtain⟨hr1,h⟩:=h.aP;rw[show dJ x v.aj d xs=eM x (dL d) by unfold dJ;rw[aG c2]];exact⟨hr1,h.aI⟩
    have c2:¬dK d=2:=gK;refine ae (λc3=>?_) λc3=>?_
    ·have c3:dK d=3:=(by simpa using c3);refine aM h λw h=>ac (ah (x:=dU d) h rfl (ah (x:=dR d) h rfl (xG (b:=b) (X:=⟨v.aj,k,p⟩) (q:=v.q) h ?_)));refine bP (A:=mr ap m0 x.cap x) (Q:=aV (dR d) KR xs) (FH ap m0 x.cap x hx.i.ok hx.i.ps hr.m v.aj (dU d) hv.un (dR d) xs hxl) h λr w h=>?_;obtain⟨hr1,h⟩:=h.aP;rw[show dJ x v.aj d xs=nA.om x v.aj (dU d) xs by unfold dJ;rw[ay c2,aG c3]];exact⟨hr1,h.aI⟩
    have c3:¬dK d=3:=(by simpa using c3);refine ae (λc4=>?_) λc4=>?_
    ·have c4:dK d=4:=(by simpa using c4);refine ac (xG (b:=b) (X:=⟨v.aj,k,p⟩) (q:=v.q) h (ar (Ci ap m0 x.cap x hx.i.ok hr.m v.aj hv.un) h λr w h=>?_));rw[show dJ x v.aj d xs=(0,io x v.aj) by unfold dJ;rw[ay c2,ay c3,aG c4]];exact⟨rfl,h.aI⟩
    ·have c4:¬dK d=4:=(by simpa using c4);refine ah (x:=dL d) h rfl (ar (yE ap m0 x.cap x ⟨hx.i.ok.out.1,by have:=hx.i.o;omega⟩ (dL d) hd.l) h λr w h=>?_);obtain⟨hr1,h⟩:=h.aP;rw[show dJ x v.aj d xs=cv x (dL d) by unfold dJ;rw[ay c2,ay c3,ay c4]];exact⟨hr1,h.aI⟩
   rw[hy];obtain⟨x',hx'⟩:∃x',x'=(dJ x v.aj d xs).2:=⟨_,rfl⟩;obtain⟨e,he⟩:∃e,e=(dJ x v.aj d xs).1:=⟨_,rfl⟩;rw[←hx']at hr2 hx2 hid2 h hone;rw[←he]at hone⊢;have hcap:=hr2.c;rw[←hcap]at h hr2;have hxv:Bh (kk+1) i ⟨x',v.q,v.l,fk⟩:=⟨hx2,hid2.trans hid,hv.q⟩;refine aD h λn42 w h=>?_;have h:=h.nil KS;have h:=h.nil KS;have h:=h.nil q_.KI;have h:=h.xc n42 ⟨none,0,0⟩ ⟨none,0,0⟩ ⟨none,0,0⟩ fk;have h:au w0 S R w (fJ n42 fk^cM b ⟨v.aj,k,p⟩ v.q^mr ap m0 x'.cap x'^uh p v.so i^af n2 zO^bg):=h.aI;refine aQ h (λ_=>fJ n42 (jf v d xs fk).2.1^eZ b (jf v d xs fk).2.2^af n2 zO^bg) (λ_=>e=(jf v d xs fk).1) (λ_ w hy h=>?_) ?_
   ·obtain⟨s1,s2,s3,h⟩:=h.fJ n42;refine aw (b:=n42) (x:=((s1,s2,s3,(jf v d xs fk).2.1.wd):Ks.T fm)) h rfl (az h (by rfl) λw h=>aw (b:=n2) (x:=((s1,s2,s3,(jf v d xs fk).2.1.wd):Ks.T fm)) h rfl ?_);have h:=h.sB (s1,s2,s3,(jf v d xs fk).2.1.wd) (jf v d xs fk).2.1 rfl;exact au.aH hy h.aI
   ·refine ae (λc0=>?_) λc0=>?_
    ·have c0:e=0:=(by simpa using c0);rw[aG c0]at hone;rw[hone];refine ar (K9 b ap n42 (kk+1) ⟨v.aj,k,p⟩ hv.un i x' v.q v.l fk m0 hxv hr2 hk (by show(0:Nat)≤999∧(0:Nat)≤999;decide)) h λ_ w h=>?_;obtain⟨k2,⟨hk2,hr3⟩,h⟩:=h.uQ;obtain⟨s,hse⟩:∃s,s=pj i v.aj ⟨x',v.q,v.l,fk⟩:=⟨_,rfl⟩;have hqs:s.q.c=v.q.c:=(by rw[hse];exact NR i v.aj _ _);dsimp only at h hk2 hr3;rw[←hse]at h hk2 hr3;have hc3:=hr3.c;rw[←hc3]at h hr3;have h:au w0 S R w (mr ap m0 s.v.cap s.v^uh p v.so i^cM b ⟨v.aj,k2,p⟩ s.q^fJ n42 s.o^af n2 zO^bg):=h.aI;have h:=h.Rc p v.so hi8 p (gZ v.so i (some s.v)) ap m0 s.v (λ_ _=>rfl) (λj hj=>ki v.so _ hj) hp (fu v.so i _) hr3;have h:=h.lh b k2 p {v with so:=gZ v.so i (some s.v),q:=s.q,l:=s.l} ⟨hk2,hqs.trans hqc⟩;rw[show mC v i x' fk=(s.o,{v with so:=gZ v.so i (some s.v),q:=s.q,l:=s.l}) by unfold mC;rw[←hse]];exact⟨c0,h.aI⟩
    ·have c0:¬e=0:=(by simpa using c0);rw[ay c0]at hone;rw[hone];have h:=h.Rc p v.so hi8 p (gZ v.so i (some x')) ap m0 x' (λ_ _=>rfl) (λj hj=>ki v.so _ hj) hp (fu v.so i _) hr2;have h:=h.lh b k p {v with so:=gZ v.so i (some x')} ⟨hk,hqc⟩;exact⟨rfl,h.aI⟩
end Zd

namespace Xo
open bH bp ff lL lN fe xH A9 yM q_ Cs BE Ei fL Ij Jz PM Ty JA WV SF YE Zd
open eI (Sk cq cv eM io iO cZ bB dV)
open JE (mr)
open TA (rf)
open WZ (Cq wD)
section
variable {w0 w:World} {S0 R0:Nat→Prop} {F G:SP} {b:Nat} {X:Cx} {q:Qm}
theorem WO(h:au w0 S0 R0 w F)[tk:Take (cM b X q) F G](x:Int){K:WP}(k:∀w',au w0 S0 R0 w' (cM b {X with aj:=x} q^G)→K w'):st ⟨b,0⟩ [aB x] K w:=by
 obtain⟨r,t,hq,h⟩:=(h.le tk.le).cM b X q;obtain⟨s1,s2,h⟩:=h.kv b X (eB X q.c r t) q.lv;refine aA h b (mB {X with aj:=x} q.c r t s1 s2) rfl rfl rfl λw h=>?_;have h:=h.dW b {X with aj:=x} (eB {X with aj:=x} q.c r t) s1 s2 q.lv;exact k w (h.gn b {X with aj:=x} q r t hq).aI
theorem WN(h:au w0 S0 R0 w F)[tk:Take (cM b X q) F G](c:Cf){K:WP}(k:∀w',au w0 S0 R0 w' (cM b X {q with c:=c}^G)→K w'):st ⟨b,0+1⟩ (Ks.mk KC c) K w:=by
 obtain⟨r,t,hq,h⟩:=(h.le tk.le).cM b X q;obtain⟨s1,s2,h⟩:=h.kv b X (eB X q.c r t) q.lv;refine aA h b (mB X c r t s1 s2) rfl rfl rfl λw h=>?_;have h:=h.dW b X (eB X c r t) s1 s2 q.lv;rw[show fT q=fT {q with c:=c}from rfl]at h;exact k w (h.gn b X {q with c:=c} r t ⟨hq.t,hq.r⟩).aI
end
theorem Cj(c):bu (ZA c) bg (λr=>ex λb:Nat=>bs (r=if may c then(some ⟨b,0⟩,0)else(none,13)) (if may c then eZ b (dH c)else bg)):=
 bC λw0 S R h=>by
  refine aD (h.le (aJ _)) λn1 w h=>aw (b:=n1) (x:=c) h rfl (aK (Pz.FL c) h λw h=>?_);by_cases hm:may c=true
  ·refine ae (λcc=>(by rw[hm]at cc;cases cc)) λ_=>?_;refine aw (b:=n1) (x:=c) h rfl (aD h λn5 w h=>?_);have h:=h.dQ (b:=n5) (L':=mB ⟨0,λ_=>Ly,λ_=>none⟩ c (λ_=>zF) (λ_=>false) ⟨none,0,0⟩ ⟨none,0,0⟩) rfl;have h:=(h.nil KI).nil KI;have h:=h.dW n5 ⟨0,λ_=>Ly,λ_=>none⟩ (eB ⟨0,λ_=>Ly,λ_=>none⟩ c (λ_=>zF) (λ_=>false)) ⟨none,0,0⟩ ⟨none,0,0⟩ ([],[]);obtain⟨T,hT⟩:∃T,T=kv n5 ⟨0,λ_=>Ly,λ_=>none⟩ (eB ⟨0,λ_=>Ly,λ_=>none⟩ c (λ_=>zF) (λ_=>false)) ([],[]):=⟨_,rfl⟩;rw[←hT]at h;have h:au w0 S R w (T^bg):=h.aI;have h8:∀k,au w0 S R w (eD (rJ (λ_=>zF) (fT (Da c))) k^T^bg):=λk=>by
    induction k with
    |zero=>exact h.le ((aJ _).trans (be _ _))
    |succ k ih=>exact(ih.nil KS).le (dh _ _ _)
   have h:=h8 8;rw[hT]at h;have h:=h.gn n5 ⟨0,λ_=>Ly,λ_=>none⟩ (Da c) (λ_=>zF) (λ_=>false) ⟨λ_ _=>rfl,λ_ _=>rfl⟩;have e:qC (λ_=>none) (λ_=>none)=eD (λ_=>bs ((none:bO)=none) bg) 8:=rfl;have hall:∀n,Le bg (eD (λ_=>bs ((none:bO)=none) bg) n):=λn=>by
    induction n with
    |zero=>exact Le.rfl
    |succ n ih=>exact(aJ bg).trans (bi (λ_ _ _ h=>⟨rfl,h⟩) ih)
   have h:au w0 S R w (qC (λ_=>none) (λ_=>none)^_):=(h.le ((aJ _).trans (be _ _))).le (bi (by rw[e];exact hall 8) Le.rfl);have h:=h.lh n5 (λ_=>Ly) (λ_=>none) (dH c) ⟨λ_=>rfl,rfl⟩;refine au.ie n5 (au.aH (by rw[aG hm]) ?_);rw[aG hm];exact h.br
  ·refine ae (λ_=>?_) λcc=>(by simp at cc;exact absurd cc hm);refine au.ie 0 (au.aH (by rw[ay hm]) ?_);rw[ay hm];exact h.gm
theorem RG(v d)(xs:List (Int×Int))(h:(jf v d xs fk).1≠0):(jf v d xs fk).2.1=fk:=by
 unfold jf at h⊢;split
 ·rfl
 ·rename_i c;rw[ay c]at h;split
  ·split<;>rfl
  ·rename_i x hx;rw[hx]at h;dsimp only at h;split
   ·rfl
   ·rename_i c1;rw[ay c1]at h;split
    ·rename_i c9;rw[aG c9]at h;exact absurd rfl h
    ·rename_i c9;rw[ay c9]at h;split
     ·rename_i c0;rw[aG c0]at h;exact absurd rfl h
     ·rfl
theorem RT(b)(kk:Int)(v)(hv:jS kk v)(hkk:kk<1000000)(d)(hd:JD d)(xs)(hxl:xs.length≤4294967296):
  bu (ZB (some ⟨b,0⟩) d) (eZ b v^aV (dR d) KR xs) (λr=>bs (r.2=(ri v d xs).1.2) (eZ b (ri v d xs).2^nq r.1 (ri v d xs).1.1)):=
 bC λw0 S R h=>by
  refine aD (h.le (aJ _)) λn1 w h=>aD h λn2 w h=>ah (x:=dK d) h rfl ?_;have h:au w0 S R w (af n1 (Ks.mk KD d)^af n2 zO^eZ b v^aV (dR d) KR xs^bg):=h.aI;have done:∀{w:World} (e:Int) (v':Mc),ri v d xs=((fk,e),v')→au w0 S R w (af n2 zO^eZ b v'^bg)→(st ⟨n2,0⟩ zO<|ld fm ⟨n2,0⟩ λ(x:Ks.T fm)=>(λ(r:Ks.T fm×Int) w=>au w0 S R w (bs (r.2=(ri v d xs).1.2) (eZ b (ri v d xs).2^nq r.1 (ri v d xs).1.1))) (x,e)) w:=by
   intro w e v' he h;rw[he];refine az h (by rfl) λw h=>aw (b:=n2) (x:=((⟨none,0,0⟩,⟨none,0,0⟩,⟨none,0,0⟩,0):Ks.T fm)) h rfl ?_;have h:=h.nil KS;have h:=h.nil KS;have h:=h.nil q_.KI;have h:=h.sB (⟨none,0,0⟩,⟨none,0,0⟩,⟨none,0,0⟩,0) fk rfl;exact au.aH rfl h.aI
  refine aQ h (λ_=>af n1 (Ks.mk KD d)^af n2 zO^eZ b v^aV (dR d) KR xs^bg) (λy:Bool=>y=vN (dK d)) (λ(y:Bool) w hy h=>?_) ?_;rotate_left
  ·unfold vN;refine ae (λc=>⟨by rw[c];rfl,h⟩) λd1=>?_;refine ae (λc=>⟨by rw[d1,c];rfl,h⟩) λd2=>?_;refine ae (λc=>⟨by rw[d1,d2,c];rfl,h⟩) λd3=>?_;refine ae (λc=>⟨by rw[d1,d2,d3,c];rfl,h⟩) λd4=>?_;refine ae (λc=>⟨by rw[d1,d2,d3,d4,c];rfl,h⟩) λd5=>?_;exact⟨by rw[d1,d2,d3,d4,d5];rfl,h⟩
  rw[hy];refine ae (λc=>?_) λc=>?_
  ·have ho:=Yc c;have estep:eC v d xs=jf v d xs fk:=(by unfold eC;rw[ay (by omega),ay (by omega),ay (by omega),aG c]);refine aw (b:=n1) (x:=d) h rfl ?_;refine bP (A:=eZ b v) (Q:=aV (dR d) KR xs) (Lb b kk v hv hkk d hd xs hxl) h λr w h=>?_;obtain⟨hr,h⟩:=h.aP;refine az h (by rfl) λw h=>aw (b:=n2) (x:=(r.1:Ks.T fm)) h rfl ?_;have hdo:ri v d xs=(((jf v d xs fk).2.1,(jf v d xs fk).1),(jf v d xs fk).2.2):=by
    unfold ri;rw[estep];by_cases h0:(jf v d xs fk).1=0
    ·rw[ay (λx=>x h0),h0]
    ·rw[aG h0,RG v d xs h0]
   rw[hdo];exact au.aH hr h.aI
  have hno:vN (dK d)=false:=c;refine ae (λc5=>?_) λc5=>?_
  ·have c5:dK d=5:=(by simpa using c5);have hdo:ri v d xs=((fk,(iN v.aj (dA d)).1),{v with aj:=(iN v.aj (dA d)).2}):=by
    have e:eC v d xs=((iN v.aj (dA d)).1,fk,{v with aj:=(iN v.aj (dA d)).2}):=(by unfold eC;rw[aG c5]);unfold ri;rw[e];by_cases h0:(iN v.aj (dA d)).1=0
    ·rw[ay (λx=>x h0),h0]
    ·rw[aG h0]
   refine ah (x:=dA d) h rfl (ae (λc1=>?_) λc1=>?_)
   ·have c1:dA d>4611686018427387904:=bV c1;have em:iN v.aj (dA d)=(3,v.aj):=(by unfold iN;rw[aG c1]);rw[em]at hdo;exact done 3 v hdo h.aI
   have c1:¬dA d>4611686018427387904:=bY c1;obtain⟨k,p,hk,h⟩:=h.eZ b;refine aM h λw h=>ah (x:=dA d) h rfl (ac (xG (b:=b) (X:=⟨v.aj,k,p⟩) (q:=v.q) h (ae (λc2=>?_) λc2=>?_)))
   ·have c2:dA d<v.aj:=bV c2;have em:iN v.aj (dA d)=(4,v.aj):=(by unfold iN;rw[ay c1,aG c2]);rw[em]at hdo;have h:=h.lh b k p v hk;exact done 4 v hdo h.aI
   ·have c2:¬dA d<v.aj:=bY c2;have em:iN v.aj (dA d)=(0,dA d):=(by unfold iN;rw[ay c1,ay c2]);rw[em]at hdo;refine ah (x:=dA d) h rfl (ac (WO (b:=b) (X:=⟨v.aj,k,p⟩) (q:=v.q) h (dA d) λw h=>?_));have h:=h.lh b k p {v with aj:=dA d} hk;exact done 0 _ hdo h.aI
  have c5:¬dK d=5:=by simpa using c5
  refine ae (λc6=>?_) λc6=>?_
  ·have c6:dK d=6:=(by simpa using c6);have hdo:ri v d xs=(((fN v fk).1,0),(fN v fk).2):=by
    have e:eC v d xs=(0,(fN v fk).1,(fN v fk).2):=(by unfold eC;rw[ay c5,aG c6]);unfold ri;rw[e,ay (λx=>x rfl)]
   rw[hdo];refine ar (K7 b kk v hv) h λr w h=>?_;refine az h (by rfl) λw h=>aw (b:=n2) (x:=(r:Ks.T fm)) h rfl ?_;exact au.aH rfl h.aI
  have c6:¬dK d=6:=by simpa using c6
  refine ae (λc8=>?_) λc8=>?_
  ·have c8:dK d=8:=(by simpa using c8);have hst:eC v d xs=((rH v (dC d)).1,fk,(rH v (dC d)).2):=(by unfold eC;rw[ay c5,ay c6,aG c8]);refine ah (x:=dC d) h rfl (aK (Pz.FL (dC d)) h λw h=>?_);refine ae (λc1=>?_) λc1=>?_
   ·have c1:¬may (dC d)=true:=(by simpa using c1);have es:rH v (dC d)=(13,v):=(by unfold rH qX;rw[ay c1];rfl);have hdo:ri v d xs=((fk,13),v):=(by unfold ri;rw[hst,es];rfl);exact done 13 v hdo h.aI
   ·have c1:may (dC d)=true:=(by simpa using c1);have es:rH v (dC d)=(0,{v with q:={v.q with c:=dC d},c:=dC d}):=(by unfold rH qX;rw[aG c1];rfl);have hdo:ri v d xs=((fk,0),{v with q:={v.q with c:=dC d},c:=dC d}):=(by unfold ri;rw[hst,es];rfl);obtain⟨k,p,hk,h⟩:=h.eZ b;refine ah (x:=dC d) h rfl (ac (WN (b:=b) (X:=⟨v.aj,k,p⟩) (q:=v.q) h (dC d) λw h=>?_));have h:=h.lh b k p {v with q:={v.q with c:=dC d},c:=dC d} ⟨hk.1,rfl⟩;exact done 0 _ hdo h.aI
  have c8:¬dK d=8:=by simpa using c8
  have hdo:ri v d xs=((fk,12),v):=by
   have e:eC v d xs=(12,fk,v):=(by unfold eC;rw[ay c5,ay c6,ay c8,ay (by rw[hno];simp)]);unfold ri;rw[e];rfl
  exact done 12 v hdo h.aI
end Xo

namespace Zj
open bH bp ff lL lN fe xH A9 yM q_ Cs BE Ei Jv Ls LB Py PK Pz WU Xt YK Zi
open SF (eZ)
theorem K_(c)(hm:may c=true)(hc:yo c)(s ps)(hl:ps.length≤1000)(hd:∀p∈ps,JD p.1)(hx:∀p∈ps,p.2.length≤4294967296):bu (PF c s) (bg^jM s ps)
  (λr=>ex λrs:List OR=>bs (rs.map Prod.snd=pg (dH c) ps ps.length) (R4 r rs (eJ (dH c) ps ps.length))):=
 bC λw0 S R h=>by
  have hsl:=(h.rd (s:=s)).2;rw[fz]at hsl;refine aD h λn1 w h=>aw (b:=n1) (x:=c) h rfl (ar (Xo.Cj c) (h.le ((aJ _).trans (be _ _))) λr w h=>?_);obtain⟨b,h⟩:=h.lV;obtain⟨hr,h⟩:=h.aP;rw[aG hm]at hr h;rw[hr];refine ae (λc=>(by cases c)) λ_=>?_;have h:=h.nil fm;have h:=h.nil KI;have h:au w0 S R w (eZ b (ng (dH c) ps (0:Int).toNat)^aS ⟨none,0,0⟩ fm (([]:List OR).map Prod.fst)^aS ⟨none,0,0⟩ KI (eJ (dH c) ps (0:Int).toNat)^rl oR []^jM s ps):=au.aI (A:=eZ b (dH c)^aS ⟨none,0,0⟩ fm []^aS ⟨none,0,0⟩ KI []^bg^jM s ps) h;refine fY (λ(y:Sl×Sl×Int) (rs:List OR)=>eZ b (ng (dH c) ps y.2.2.toNat)^aS y.1 fm (rs.map Prod.fst)^aS y.2.1 KI (eJ (dH c) ps y.2.2.toNat)^rl oR rs^jM s ps) (λ(y:Sl×Sl×Int) rs=>(0≤y.2.2∧y.2.2≤ps.length)∧rs.map Prod.snd=pg (dH c) ps y.2.2.toNat) (λ(y:Sl×Sl×Int) _=>((ps.length:Int)-y.2.2).toNat) [] h ⟨⟨gQ 0,by show(0:Int)≤_;omega⟩,rfl⟩ ?_;rintro K (y:Sl×Sl×Int) rs w ⟨hyr,hrl⟩ h next
  obtain⟨y1,y2,y3⟩:=y;dsimp only at hyr hrl h next⊢
  have hrs:rs.length=y3.toNat:=by have:=c_ List.length hrl;rw[fz,vU]at this;exact this
  refine ae (λc0=>?_) λc0=>?_
  ·have c0:y3<((s.len:Nat):Int):=bV c0;have hlt:y3.toNat<ps.length:=(by omega);obtain⟨p,hpi⟩:∃p,ps[y3.toNat]?=some p:=⟨_,jx hlt⟩;have hpa:Be ps y3.toNat=p:=(by unfold Be;rw[nJ,hpi];rfl);have hdm:(ps.map Prod.fst)[y3.toNat]?=some p.1:=(by rw[kV,hpi];rfl);have hdl:y3.toNat<(ps.map Prod.fst).length:=(by rw[fz];exact hlt);have hmem:=gI hpi;refine bS (s:=s) h hyr.1 hdl (dP h s y3.toNat hdm rfl ?_)
   haveI:=FJ hpi
   have hv:=yG hc hd y3.toNat (by omega) (by omega);have h:au w0 S R w (eZ b (ng (dH c) ps y3.toNat)^(aS y1 fm (rs.map Prod.fst)^aS y2 KI (eJ (dH c) ps y3.toNat)^rl oR rs)^jM s ps):=h.aI;refine bP (A:=eZ b (ng (dH c) ps y3.toNat)) (Q:=aV (dR p.1) KR p.2) (Xo.RT b _ _ hv (by omega) p.1 (hd p hmem) p.2 (hx p hmem)) h λr w h=>?_;obtain⟨hre,h⟩:=h.aP;obtain⟨ro,re⟩:=r;dsimp only at hre h⊢;rw[←hpa]at hre h;obtain⟨on,hon⟩:∃on,on=(ri (ng (dH c) ps y3.toNat) (Be ps y3.toNat).1 (Be ps y3.toNat).2).1.1:=⟨_,rfl⟩;rw[←hon]at h;have h:au w0 S R w (nq ro on^eZ b (ng (dH c) ps (y3.toNat+1))^aS y1 fm (rs.map Prod.fst)^aS y2 KI (eJ (dH c) ps y3.toNat)^rl oR rs^jM s ps):=au.aI (A:=nq ro on^eZ b (ri (ng (dH c) ps y3.toNat) (Be ps y3.toNat).1 (Be ps y3.toNat).2).2^aS y1 fm (rs.map Prod.fst)^aS y2 KI (eJ (dH c) ps y3.toNat)^rl oR rs^jM s ps) h;refine aD h λn12 w h=>aA h n12 (Ks.mk fm ro) rfl rfl rfl λw h=>aw (b:=n12) (x:=ro) h rfl ?_;refine aD h λn14 w h=>?_;have h:=h.co n14 fm [ro] rfl (by simp);have h:au w0 S R w (aS ⟨some ⟨n14,0⟩,1,1⟩ fm [ro]^_):=h;have h:au w0 S R w (aS y1 fm (rs.map Prod.fst)^aS ⟨some ⟨n14,0⟩,1,1⟩ fm [ro]^nq ro on^eZ b (ng (dH c) ps (y3.toNat+1))^aS y2 KI (eJ (dH c) ps y3.toNat)^rl oR rs^jM s ps):=h.aI;refine dF (s:=y1) (x:=⟨some ⟨n14,0⟩,1,1⟩) h rfl (by rw[fz,hrs];show _+1≤_;omega) λs15 w _ h=>?_;refine aD h λn16 w h=>?_;have h:=h.co n16 KI [re] rfl (by simp);have h:au w0 S R w (aS ⟨some ⟨n16,0⟩,1,1⟩ KI [re]^_):=h;have h:au w0 S R w (aS y2 KI (eJ (dH c) ps y3.toNat)^aS ⟨some ⟨n16,0⟩,1,1⟩ KI [re]^aS s15 fm (rs.map Prod.fst++[ro])^nq ro on^eZ b (ng (dH c) ps (y3.toNat+1))^rl oR rs^jM s ps):=h.aI;refine dF (s:=y2) (x:=⟨some ⟨n16,0⟩,1,1⟩) h rfl (by rw[sb];show _+1≤_;omega) λs17 w _ h=>?_;have hwi:i64.wrap (y3+1)=y3+1:=gi;have he:eJ (dH c) ps y3.toNat++[re]=eJ (dH c) ps (y3.toNat+1):=(by rw[hre];rfl);have h1:(y3+1).toNat=y3.toNat+1:=(by omega);rw[hwi];have ea:rs.map Prod.fst++[ro]=(rs++[((ro,on):OR)]).map Prod.fst:=(by rw[me];rfl);have eb:(rs++[((ro,on):OR)]).map Prod.snd=pg (dH c) ps (y3.toNat+1):=(by rw[me,hrl,hon];rfl);rw[he,ea]at h;have h:au w0 S R w ((eZ b (ng (dH c) ps (y3.toNat+1))^aS s15 fm ((rs++[((ro,on):OR)]).map Prod.fst)^aS s17 KI (eJ (dH c) ps (y3.toNat+1))^jM s ps)^(rl oR rs^nq ro on)):=h.aI;have h:=h.le (bi Le.rfl (tx oR (ro,on) rs));refine next (s15,s17,y3+1) (rs++[(ro,on)]) w ⟨⟨by show 0≤y3+1;omega,by show y3+1≤_;omega⟩,by show _=pg (dH c) ps (y3+1).toNat;rw[h1];exact eb⟩ ?_ (by show((ps.length:Int)-(y3+1)).toNat<((ps.length:Int)-y3).toNat;omega)
   show au w0 S R w (eZ b (ng (dH c) ps (y3+1).toNat)^aS s15 fm ((rs++[((ro,on):OR)]).map Prod.fst)^aS s17 KI (eJ (dH c) ps (y3+1).toNat)^rl oR (rs++[((ro,on):OR)])^jM s ps);rw[h1];exact h.aI
  ·have c0:¬y3<((s.len:Nat):Int):=bY c0;have e:y3.toNat=ps.length:=(by omega);rw[e]at h hrl;have h:au w0 S R w (aS y1 fm (rs.map Prod.fst)^aS y2 KI (eJ (dH c) ps ps.length)^rl oR rs):=h.aI;exact au.ie rs (au.aH hrl h)
theorem La(c:Cf)(hm:may c=false)(s:Sl)(F:SP):bu (PF c s) (bg^F)
  (λr=>bs (r.1=⟨none,0,0⟩) (aS r.2 KI [13])):=
 bC λw0 S R h=>by
  have h:au w0 S R w0 bg:=h.br;refine aD h λn1 w h=>aw (b:=n1) (x:=c) h rfl (ar (Xo.Cj c) (h.le ((aJ _).trans (be _ _))) λr w h=>?_);obtain⟨b,h⟩:=h.lV;obtain⟨hr,h⟩:=h.aP;rw[ay (by rw[hm];decide)]at hr h;rw[hr];refine ae (λ_=>?_) λc=>(by cases c);refine aD h λn4 w h=>?_;have h:=h.co n4 KI [13] rfl (by simp);have h:au w0 S R w (aS ⟨some ⟨n4,0⟩,1,1⟩ KI [13]^_):=h;exact au.aH rfl h.br
section
variable {w0 w:World} {S0 R0:Nat→Prop} {F:SP}
theorem lo(hx:∀x∈xs,Rd x.1.1 F KS x.2.oo∧Rd x.1.2.1 F KS x.2.dr∧Rd x.1.2.2.1 F KI x.2.ft):oF (rl oQ xs) F:=zG λx hm=>by
 obtain⟨r1,r2,r3⟩:=hx x hm;unfold oQ
 infer_instance
theorem E6(a b xs ys)[ra:Rd a F fm (xs.map Prod.fst)][rb:Rd b F fm (ys.map Prod.fst)](hx:∀x∈xs,Rd x.1.1 F KS x.2.oo∧Rd x.1.2.1 F KS x.2.dr∧Rd x.1.2.2.1 F KI x.2.ft)(hy:∀x∈ys,Rd x.1.1 F KS x.2.oo∧Rd x.1.2.1 F KS x.2.dr∧Rd x.1.2.2.1 F KI x.2.ft):
  oF ((aV a fm (xs.map Prod.fst)^rl oQ xs)^(aV b fm (ys.map Prod.fst)^rl oQ ys)) F:=
 qh _ _ _ (a:=qh _ _ _ (b:=lo hx)) (b:=qh _ _ _ (b:=lo hy))
end
theorem ON(d s raw ps)(hd:0≤cH d∧U (cR d))(hp:∀p∈ps,WW p):bu (c3 d s raw) (jM s ps) (λr=>bs (r=true) bg):=
 bC λw0 S R h=>by
  have h:au w0 S R w0 (jM s ps):=h;have hlen:=RI h;obtain⟨ds,hds⟩:∃ds,ds=jV 90 ps:=⟨_,rfl⟩;have hD:=QX (m:=90) hp;have hdl:=Ka ps 90;rw[←hds]at hD hdl;have hdl:ds.length≤90:=by rw[hdl];exact Nat.min_le_left _ _
  have hrd:∀{F:SP},(∀p∈ps,Rd (dR p.1) F KR p.2)→∀q∈ds,Rd (dR q.1) F KR q.2:=λhr=>by rw[hds];exact Oj hp hr hlen
  refine aD h λn1 w h=>?_;have h:au w0 S R w (af n1 (Ks.mk KC d)^jM s ps):=h;refine aQ h (λ_=>xQ (λc:Cf=>0≤cH c∧U (cR c)) (λc:Cf=>af n1 (Ks.mk KC c))^jM s ps) (λ_=>True) (λ_ w _ h=>?_) ?_;rotate_left
  ·refine ae (λ_=>?_) λ_=>?_
   ·refine aw (b:=n1) (x:=d) h rfl (ar (F6.Gz d) (h.le ((aJ _).trans (be _ _))) λx w h=>?_);obtain⟨hx,h⟩:=h.aP;rw[hx];refine az h (by rfl) λw h=>?_;have hok:=F6.J_ hd.1 hd.2;have h:=h.rA (f:=λc:Cf=>af n1 (Ks.mk KC c)) (φ:=λc:Cf=>0≤cH c∧U (cR c)) (F6.nS d) ⟨hok.h.1,hok.r⟩;exact⟨trivial,h.aI⟩
   ·have h:=h.rA (f:=λc:Cf=>af n1 (Ks.mk KC c)) (φ:=λc:Cf=>0≤cH c∧U (cR c)) d hd;exact⟨trivial,h.aI⟩
  obtain⟨c,hc,h⟩:=h.uQ;refine ly (Kb s ps 90 (by decide) hp) h inferInstance λr4 w h=>?_;rw[←hds]at h;have h:au w0 S R w (aS r4 KD (ds.map Prod.fst)^af n1 (Ks.mk KC c)^jM s ps):=h;refine aw (b:=n1) (x:=c) h rfl ?_;cases hm:may c with
  |false=>
   refine ly (FP c hm r4 bg) h inferInstance λr5 w h=>?_;obtain⟨h5,h⟩:=h.aP;refine aw (b:=n1) (x:=c) h rfl ?_;refine ly (La c hm r4 bg) h inferInstance λr6 w h=>?_;obtain⟨h6,h⟩:=h.aP;refine aw (b:=n1) (x:=c) h rfl ?_;refine ly (FP c hm r4 bg) h inferInstance λr7 w h=>?_;obtain⟨h7,h⟩:=h.aP;rw[h5,h6,h7];refine Tn YJ.BJ h λr8 w h=>?_;obtain⟨hr8,h⟩:=h.aP;have h:=h.drop;refine ae (λ_=>?_) λc=>by rw[hr8]at c;cases c
   have z:∀F:SP,oF ((aV ⟨none,0,0⟩ fm (([]:List OR).map Prod.fst)^rl oQ [])^(aV ⟨none,0,0⟩ fm (([]:List OR).map Prod.fst)^rl oQ [])) F:=λF=>by
    show oF ((aV ⟨none,0,0⟩ fm []^bg)^(aV ⟨none,0,0⟩ fm []^bg)) F
    infer_instance
   refine ly (wl ⟨none,0,0⟩ ⟨none,0,0⟩ [] [] (gJ _) (λ_ h=>by cases h) (λ_ h=>by cases h) rfl) h (z _) λr9 w h=>?_;obtain⟨hr9,h⟩:=h.aP;have h:=h.drop;refine ae (λ_=>?_) λc=>by rw[hr9]at c;cases c
   refine ly (mP r5.2 r6.2 [13] [13] (by decide)) h inferInstance λr10 w h=>?_;obtain⟨hr10,h⟩:=h.aP;have h:=h.drop;refine ae (λ_=>?_) λc=>by rw[hr10.2 rfl]at c;cases c
   refine ly (wl ⟨none,0,0⟩ ⟨none,0,0⟩ [] [] (gJ _) (λ_ h=>by cases h) (λ_ h=>by cases h) rfl) h (z _) λr11 w h=>?_;obtain⟨hr11,h⟩:=h.aP;have h:=h.drop;refine ae (λ_=>?_) λc=>by rw[hr11]at c;cases c
   refine ly (mP r7.2 r5.2 [13] [13] (by decide)) h inferInstance λr12 w h=>?_;obtain⟨hr12,h⟩:=h.aP;exact au.aH (hr12.2 rfl) h.gm
  |true=>
   have hco:yo c:=C8 hm hc.1 hc.2;have lops:∀{F:SP},(∀p∈ps,Rd (dR p.1) F KR p.2)→[Rd r4 F KD (ds.map Prod.fst)]→oF (jM r4 ds) F:=λhr _=>Nc r4 ds (hrd hr);have run:=OM c hm hco r4 ds (by omega) (λp hp=>(hD p hp).1) (λp hp=>(hD p hp).2);refine ly run h (lops (λp hp=>by haveI:=HH p hp;infer_instance)) λr5 w h=>?_;obtain⟨rs,h⟩:=h.lV;obtain⟨hrs,h⟩:=h.aP;have h:au w0 S R w (aS r4 KD (ds.map Prod.fst)^af n1 (Ks.mk KC c)^aS r5.1 fm (rs.map Prod.fst)^aS r5.2 KI (eJ (dH c) ds ds.length)^rl oR rs^jM s ps):=au.aI (F:=(aS r5.1 fm (rs.map Prod.fst)^aS r5.2 KI (eJ (dH c) ds ds.length)^rl oR rs)^aS r4 KD (ds.map Prod.fst)^af n1 (Ks.mk KC c)^jM s ps) h;refine aw (b:=n1) (x:=c) h rfl ?_;refine ly (K_ c hm hco r4 ds (by omega) (λp hp=>(hD p hp).1) (λp hp=>(hD p hp).2)) h (lops (λp hp=>by haveI:=HH p hp;infer_instance)) λr6 w h=>?_;obtain⟨qs,h⟩:=h.lV;obtain⟨hqs,h⟩:=h.aP;have h:au w0 S R w (aS r4 KD (ds.map Prod.fst)^af n1 (Ks.mk KC c)^aS r5.1 fm (rs.map Prod.fst)^aS r5.2 KI (eJ (dH c) ds ds.length)^rl oR rs^aS r6.1 fm (qs.map Prod.fst)^aS r6.2 KI (eJ (dH c) ds ds.length)^rl oR qs^jM s ps):=au.aI (F:=(aS r6.1 fm (qs.map Prod.fst)^aS r6.2 KI (eJ (dH c) ds ds.length)^rl oR qs)^aS r4 KD (ds.map Prod.fst)^af n1 (Ks.mk KC c)^aS r5.1 fm (rs.map Prod.fst)^aS r5.2 KI (eJ (dH c) ds ds.length)^rl oR rs^jM s ps) h;refine aw (b:=n1) (x:=c) h rfl ?_;refine ly run h (lops (λp hp=>by haveI:=HH p hp;infer_instance)) λr7 w h=>?_;obtain⟨ts,h⟩:=h.lV;obtain⟨hts,h⟩:=h.aP;have h:au w0 S R w (aS r5.1 fm (rs.map Prod.fst)^aS r5.2 KI (eJ (dH c) ds ds.length)^rl oR rs^aS r6.1 fm (qs.map Prod.fst)^aS r6.2 KI (eJ (dH c) ds ds.length)^rl oR qs^aS r7.1 fm (ts.map Prod.fst)^aS r7.2 KI (eJ (dH c) ds ds.length)^rl oR ts):=au.aI (F:=(aS r7.1 fm (ts.map Prod.fst)^aS r7.2 KI (eJ (dH c) ds ds.length)^rl oR ts)^aS r4 KD (ds.map Prod.fst)^af n1 (Ks.mk KC c)^aS r5.1 fm (rs.map Prod.fst)^aS r5.2 KI (eJ (dH c) ds ds.length)^rl oR rs^aS r6.1 fm (qs.map Prod.fst)^aS r6.2 KI (eJ (dH c) ds ds.length)^rl oR qs^jM s ps) h;have hwr:=G2 (rs:=rs) h;have hwq:=G2 (rs:=qs) h;have hwt:=G2 (rs:=ts) h;have hsm:∀{xs:List OR},xs.map Prod.snd=pg (dH c) ds ds.length→∀x∈xs,SJ x.2:=λhxs x hx=>Fm hco (λp hp=>(hD p hp).1) ds.length (by omega) (eE _) x.2 (by rw[←hxs];exact List.mem_map_of_mem hx);have hll:∀{xs:List OR},xs.map Prod.snd=pg (dH c) ds ds.length→xs.length≤4294967296:=λhxs=>by have:=c_ List.length hxs;rw[fz,vU]at this;omega
   refine Tn YJ.BJ h λr8 w h=>?_;obtain⟨hr8,h⟩:=h.aP;have h:=h.drop;refine ae (λ_=>?_) λc=>by rw[hr8]at c;cases c
   refine ly (wl r5.1 r6.1 rs qs (hll hrs) (λx hx=>⟨hwr x hx,hsm hrs x hx⟩) hwq (hrs.trans hqs.symm)) h (E6 _ _ rs qs (λx hx=>by
     obtain⟨r1,r2,r3⟩:=I7 hx;exact⟨inferInstance,inferInstance,inferInstance⟩) (λx hx=>by
     obtain⟨r1,r2,r3⟩:=I7 hx;exact⟨inferInstance,inferInstance,inferInstance⟩)) λr9 w h=>?_
   obtain⟨hr9,h⟩:=h.aP;have h:=h.drop;refine ae (λ_=>?_) λc=>by rw[hr9]at c;cases c
   refine ly (mP r5.2 r6.2 (eJ (dH c) ds ds.length) (eJ (dH c) ds ds.length) (by rw[sb];omega)) h inferInstance λr10 w h=>?_;obtain⟨hr10,h⟩:=h.aP;have h:=h.drop;refine ae (λ_=>?_) λc=>by rw[hr10.2 rfl]at c;cases c
   refine ly (wl r7.1 r5.1 ts rs (hll hts) (λx hx=>⟨hwt x hx,hsm hts x hx⟩) hwr (hts.trans hrs.symm)) h (E6 _ _ ts rs (λx hx=>by
     obtain⟨r1,r2,r3⟩:=I7 hx;exact⟨inferInstance,inferInstance,inferInstance⟩) (λx hx=>by
     obtain⟨r1,r2,r3⟩:=I7 hx;exact⟨inferInstance,inferInstance,inferInstance⟩)) λr11 w h=>?_
   obtain⟨hr11,h⟩:=h.aP;have h:=h.drop;refine ae (λ_=>?_) λc=>by rw[hr11]at c;cases c
   refine ly (mP r7.2 r5.2 (eJ (dH c) ds ds.length) (eJ (dH c) ds ds.length) (by rw[sb];omega)) h inferInstance λr12 w h=>?_;obtain⟨hr12,h⟩:=h.aP;exact au.aH (hr12.2 rfl) h.gm
end Zj

end Go.X
