/- Contracts and plain facts: TreeA TreeB TreeC TreeD. -/
import Derived.Test.YtaimlgfepkopkaaGreatB1
set_option linter.all false
namespace Go.X
open Go.Proofs
namespace xV
open _root_.Go.X.Tree
abbrev KN:Ks:=[.int .u64,.int .u64,.int .i64,.int .i64,.int .i64]
theorem AY(x:Int):bm (OV x) aT (λr=>bh (r=false) aT):=
 br λw0 S R h=>by
  exact au.aE (by simp) h
def c1(x y:Int):Int:=if x<y then-1 else if x>y then 1 else 0
theorem O8(x y:Int):bm (OS x y) aT (λr=>bh (r=c1 x y) aT):=
 br λw0 S R h=>by
  unfold c1;refine af (AY x) h λr w h=>?_;obtain⟨hr,h⟩:=h.aB;rw[hr];refine af (AY y) h λr w h=>?_;obtain⟨hr,h⟩:=h.aB;rw[hr];refine ae (λc=>(by cases c)) λ_=>ae (λc=>(by cases c)) λ_=>?_;refine ae (λc=>?_) λc=>?_
  ·rw[aC (bJ c)];exact au.aE rfl h.fV
  rw[ay (bQ c)];refine ae (λc=>?_) λc=>?_
  ·rw[aC (bJ c)];exact au.aE rfl h.fV
  ·rw[ay (bQ c)];exact au.aE rfl h.fV
theorem T6(n:Nat)(a b:Int):bm (Td ⟨some ⟨n,0⟩,2,2⟩) (aP ⟨some ⟨n,0⟩,2,2⟩ KI [a,b]) (λr=>bh (r=if a≠0 then a else b) (aP ⟨some ⟨n,0⟩,2,2⟩ KI [a,b])):=
 br λw0 S R h=>by
  refine cS (λ_:Int=>aP ⟨some ⟨n,0⟩,2,2⟩ KI [a,b]) (λi:Int=>i=0∨(i=1∧a=0)∨(i=2∧a=0∧b=0)) (λi:Int=>(2-i).toNat) h (.inl rfl) ?_;rintro(i:Int) w hi h;refine ae (λc=>?_) λc=>?_
  ·have c:i<2:=bV;rcases hi with rfl|⟨rfl,ha⟩|⟨rfl,_⟩
   ·refine bR h (by omega) (by simp) (dW h ⟨some ⟨n,0⟩,2,2⟩ 0 rfl rfl ?_);refine ae (λc=>?_) λc=>?_
    ·have c:a≠0:=bV;exact au.aE (by rw[aC c]) h
    ·have c:a=0:=bV;exact⟨⟨.inr (.inl ⟨rfl,c⟩),h⟩,by decide⟩
   ·refine bR h (by omega) (by simp) (dW h ⟨some ⟨n,0⟩,2,2⟩ 1 rfl rfl ?_);refine ae (λc=>?_) λc=>?_
    ·exact au.aE (by rw[ay (by simp[ha])]) h
    ·have c:b=0:=bV;exact⟨⟨.inr (.inr ⟨rfl,ha,c⟩),h⟩,by decide⟩
   ·omega
  ·have c:¬i<2:=bV;rcases hi with rfl|⟨rfl,ha⟩|⟨rfl,ha,hb⟩
   ·omega
   ·omega
   ·exact au.aE (by rw[ay (by simp[ha]),hb]) h
def kc(a b:Key):Int:=if kX a b then-1 else if a=b then 0 else 1
theorem LK{a b:Key}:kc a b<0↔kX a b=true:=by
 unfold kc;split
 ·rename_i h;simp[h]
 ·rename_i h;split<;>simp[h]
theorem QI{a b:Key}:kc a b>0↔kX a b=false∧a≠b:=by
 unfold kc;split
 ·rename_i h;simp[h]
 ·rename_i h;split<;>rename_i h2<;>simp[h,h2]
theorem Dy(a b:Key):bm (OI a b) aT (λr=>bh (r=kc a b) aT):=
 br λw0 S R h=>by
  refine aA h λn1 w h=>?_;refine aA h λn2 w h=>?_;repeat' (first
   |(refine aH h λw h=>?_)
   |(refine ac ?_)
   |(refine ar h rfl ?_)
   |(refine aj h rfl ?_)
   |(refine aJ h ?_)
   |(refine aI h rfl ?_)
   |(refine aw h (by rfl) λw h=>?_)
   |(refine aA h λn w h=>?_)
   |(refine aN h λw h=>?_)
   |(refine aU h rfl λw h=>?_;dsimp only[dj,over]at h)
   |(refine af (O8 _ _) h λr w h=>?_;obtain⟨hr,h⟩:=h.aB;(try dsimp only at hr h);try rw[hr]))
  have h:=h.cT n KI [c1 a.1 b.1,c1 a.2 b.2] rfl (by simp);refine af (T6 n (c1 a.1 b.1) (c1 a.2 b.2)) h λr w h=>?_;obtain⟨hr,h⟩:=h.aB;refine au.aE ?_ h.fV;rw[hr];obtain⟨a1,a2⟩:=a;obtain⟨b1,b2⟩:=b;unfold c1 kc;by_cases h1:a1<b1
  ·simp[kX,h1]
  ·by_cases h2:a1=b1
   ·by_cases h3:a2<b2
    ·simp[kX,h2,h3]
    ·by_cases h4:a2=b2
     ·simp[kX,h2,h4]
     ·have h5:a2>b2:=(by omega);simp[kX,h2,h3,h4,h5]
   ·have h5:a1>b1:=(by omega);simp[kX,h1,h2,h5]
def In(l:List Nd)(i:Int):Prop:=0≤i∧i.toNat<l.length
theorem In.len{l l':List Nd}{i:Int}(h:In l i)(e:l'.length=l.length):In l' i:=⟨h.1,by rw[e];exact h.2⟩
theorem nO{l:List Nd}{i:Int}(h:In l i):l[i.toNat]?=some (nth l i):=by
 rw[nth,Bc,jG h.2];rfl
abbrev hh(l:List Nd)(i:Int):Int:=(nth l i).2.2.2.2
section
variable {w0 w:World} {S0 R0:Nat→Prop} {F G:SP} {l:List Nd} {s:Sl} {i:Int}
theorem im{n:Nat}{k:Pt→WP}(h:au w0 S0 R0 w F)[t:Rd s F KN l](hi:In l i)(hk:k (s.ix i.toNat n) w):idx s i n k w:=bR (s:=s) h hi.1 hi.2 hk
theorem JW{k:Int→WP}(h:au w0 S0 R0 w F)[t:Rd s F KN l](hi:In l i)(hk:k (lt l i) w):ld [.int .i64] ⟨(s.ix i.toNat 5).b,(s.ix i.toNat 5).o+2⟩ k w:=eU h s i.toNat 2 (nth l i) (nO hi) rfl (by decide) rfl hk
theorem MT{k:Int→WP}(h:au w0 S0 R0 w F)[t:Rd s F KN l](hi:In l i)(hk:k (bG l i) w):ld [.int .i64] ⟨(s.ix i.toNat 5).b,(s.ix i.toNat 5).o+3⟩ k w:=eU h s i.toNat 3 (nth l i) (nO hi) rfl (by decide) rfl hk
theorem rdH{k:Int→WP}(h:au w0 S0 R0 w F)[t:Rd s F KN l](hi:In l i)(hk:k (hh l i) w):ld [.int .i64] ⟨(s.ix i.toNat 5).b,(s.ix i.toNat 5).o+4⟩ k w:=eU h s i.toNat 4 (nth l i) (nO hi) rfl (by decide) rfl hk
theorem UP{k:Int×Int→WP}(h:au w0 S0 R0 w F)[t:Rd s F KN l](hi:In l i)(hk:k (jn l i) w):ld [.int .u64,.int .u64] (s.ix i.toNat 5) k w:=eU h s i.toNat 0 (nth l i) (nO hi) rfl (by decide) rfl hk
theorem ckR{A:WP}(h:au w0 S0 R0 w F)[t:Rd s F KN l](hi:In l i)(hk:A w):co ⟨(s.ix i.toNat 5).b,(s.ix i.toNat 5).o+3⟩ (Ks.mk [.int .i64] (bG l i)) A w:=Ut h s i.toNat 3 (nth l i) (nO hi) rfl (by decide) rfl hk
theorem Wd{v:Int}{A:WP}(h:au w0 S0 R0 w F)[t:mn s F KN l G](hi:In l i)(hk:∀w',au w0 S0 R0 w' (aP s KN (cI l i v)^G)→A w'):st ⟨(s.ix i.toNat 5).b,(s.ix i.toNat 5).o+2⟩ [.int .i64 v] A w:=lT h s i.toNat 2 (nth l i) ((nth l i).1,(nth l i).2.1,v,(nth l i).2.2.2.1,(nth l i).2.2.2.2) (nO hi) rfl (by simp) (by simp) rfl hk
theorem We{v:Int}{A:WP}(h:au w0 S0 R0 w F)[t:mn s F KN l G](hi:In l i)(hk:∀w',au w0 S0 R0 w' (aP s KN (cJ l i v)^G)→A w'):st ⟨(s.ix i.toNat 5).b,(s.ix i.toNat 5).o+3⟩ [.int .i64 v] A w:=lT h s i.toNat 3 (nth l i) ((nth l i).1,(nth l i).2.1,(nth l i).2.2.1,v,(nth l i).2.2.2.2) (nO hi) rfl (by simp) (by simp) rfl hk
end
def Lk(l:List Nd)(B:Int):Prop:=∀i,In l i→(lt l i=-1∨In l (lt l i))∧(bG l i=-1∨In l (bG l i))∧0≤hh l i∧hh l i≤B
theorem Lk.mono{l:List Nd}{B C:Int}(h:Lk l B)(hb:B≤C):Lk l C:=λi hi=>⟨(h i hi).1,(h i hi).2.1,(h i hi).2.2.1,wo (h i hi).2.2.2 hb⟩
theorem uY{l:List Nd}{i j:Int}{x:Nd}(hi:In l i):nth (l.set i.toNat x) j=if j.toNat=i.toNat then x else nth l j:=by
 have hl:=hi.2;by_cases e:i.toNat=j.toNat
 ·simp[nth,Bc,List.getElem?_set,e,show j.toNat<l.length by omega]
 ·simp[nth,Bc,List.getElem?_set,e,lS e]
theorem Lk.set{l:List Nd}{B C:Int}(h:Lk l B)(hb:B≤C){i:Int}(hi:In l i){x:Nd}(h1:x.2.2.1=-1∨In l x.2.2.1)(h2:x.2.2.2.1=-1∨In l x.2.2.2.1)(h3:0≤x.2.2.2.2∧x.2.2.2.2≤C):Lk (l.set i.toNat x) C:=by
 have hlen:(l.set i.toNat x).length=l.length:=qB;intro j hj;have hj:In l j:=hj.len hlen.symm;simp only[Tree.lt,bG,hh,uY hi];split
 ·exact⟨h1.imp id (·.len hlen),h2.imp id (·.len hlen),h3⟩
 ·have:=h j hj;exact⟨this.1.imp id (·.len hlen),this.2.1.imp id (·.len hlen),this.2.2.1,wo this.2.2.2 hb⟩
theorem rq{l:List Nd}{B:Int}(h:Lk l B){i:Int}(hi:i=-1∨In l i)(hB:0≤B):0≤Aa l i∧Aa l i≤B:=by
 unfold Aa;split
 ·omega
 ·exact(h i (hi.resolve_left (by assumption))).2.2
theorem Lk.lt{l:List Nd}{B:Int}(h:Lk l B){i v:Int}(hi:In l i)(hv:v=-1∨In l v):Lk (cI l i v) B:=h.set (ku _) hi hv (h i hi).2.1 (h i hi).2.2
theorem Lk.rt{l:List Nd}{B:Int}(h:Lk l B){i v:Int}(hi:In l i)(hv:v=-1∨In l v):Lk (cJ l i v) B:=h.set (ku _) hi (h i hi).1 hv (h i hi).2.2
theorem Lk.D2{l:List Nd}{B:Int}(h:Lk l B)(hB:0≤B){i:Int}(hi:In l i):Lk (a_ l i) (B+1):=by
 have h1:=rq h (h i hi).1 hB;have h2:=rq h (h i hi).2.1 hB;exact h.set (by omega) hi (h i hi).1 (h i hi).2.1 ⟨by show 0≤max _ _+1;omega,by show max _ _+1≤_;omega⟩
theorem Lk.H7{l:List Nd}{B:Int}(h:Lk l B)(hB:0≤B){i:Int}(hi:In l i)(hr:In l (bG l i)):Lk (cX l i).1 (B+2):=by
 have a:=(h.rt hi (h _ hr).1);have b:=a.lt (hr.len (cC _ _ _)) (.inr (hi.len (cC _ _ _)));have c:=b.D2 hB (hi.len (by rw[cA,cC]));have d:=c.D2 (by omega) (hr.len (by rw[gd,cA,cC]));exact d.mono (by omega)
theorem Lk.H8{l:List Nd}{B:Int}(h:Lk l B)(hB:0≤B){i:Int}(hi:In l i)(hr:In l (Tree.lt l i)):Lk (db l i).1 (B+2):=by
 have a:=(h.lt hi (h _ hr).2.1);have b:=a.rt (hr.len (cA _ _ _)) (.inr (hi.len (cA _ _ _)));have c:=b.D2 hB (hi.len (by rw[cC,cA]));have d:=c.D2 (by omega) (hr.len (by rw[gd,cC,cA]));exact d.mono (by omega)
theorem B1{l:List Nd}{B:Int}(h:Lk l B)(hB:0≤B){i:Int}(hi:In l i)(hl:ib l i>0):In l (Tree.lt l i):=by
 refine(h i hi).1.resolve_left λe=>?_;have:=rq h (h i hi).2.1 hB;rw[ib,e,Aa,aC rfl]at hl;omega
theorem B2{l:List Nd}{B:Int}(h:Lk l B)(hB:0≤B){i:Int}(hi:In l i)(hl:ib l i<0):In l (bG l i):=by
 refine(h i hi).2.1.resolve_left λe=>?_;have:=rq h (h i hi).1 hB;have e2:Aa l (bG l i)=0:=by rw[e];rfl
 rw[ib,e2]at hl;omega
theorem Lk.even{l:List Nd}{B:Int}(h:Lk l B)(hB:0≤B){i:Int}(hi:In l i):Lk (fJ l i).1 (B+5)∧In l (fJ l i).2:=by
 have m:=h.D2 hB hi;have hi1:In (a_ l i) i:=hi.len (gd _ _);unfold fJ;split
 ·rename_i c;have hl:=B1 m (by omega) hi1 (by omega);split
  ·rename_i c2;have hlr:=B2 m (by omega) hl c2;have t:=m.H7 (by omega) hl hlr;have hlt:=sP (a_ l i) (Tree.lt (a_ l i) i);have s1:=t.lt (v:=(cX (a_ l i) (Tree.lt (a_ l i) i)).2) (hi1.len hlt) (.inr (hlr.len hlt));have hl2:In (cI (cX (a_ l i) (Tree.lt (a_ l i) i)).1 i (cX (a_ l i) (Tree.lt (a_ l i) i)).2) i:=hi1.len (by rw[cA,hlt]);have hl3:Tree.lt (cI (cX (a_ l i) (Tree.lt (a_ l i) i)).1 i (cX (a_ l i) (Tree.lt (a_ l i) i)).2) i=bG (a_ l i) (Tree.lt (a_ l i) i):=by
    simp only[Tree.lt,cI,uY (hi1.len hlt),gU];rfl
   have hl4:In (cI (cX (a_ l i) (Tree.lt (a_ l i) i)).1 i (cX (a_ l i) (Tree.lt (a_ l i) i)).2) (Tree.lt (cI (cX (a_ l i) (Tree.lt (a_ l i) i)).1 i (cX (a_ l i) (Tree.lt (a_ l i) i)).2) i):=by
    rw[hl3];exact hlr.len (by rw[cA,hlt])
   refine⟨(s1.H8 (by omega) hl2 hl4).mono (by omega),?_⟩;exact hl4.len (by rw[cA,hlt,gd])
  ·exact⟨(m.H8 (by omega) hi1 hl).mono (by omega),hl.len (gd _ _).symm⟩
 ·split
  ·rename_i c;have hl:=B2 m (by omega) hi1 (by omega);split
   ·rename_i c2;have hlr:=B1 m (by omega) hl c2;have t:=m.H8 (by omega) hl hlr;have hlt:=sQ (a_ l i) (bG (a_ l i) i);have s1:=t.rt (v:=(db (a_ l i) (bG (a_ l i) i)).2) (hi1.len hlt) (.inr (hlr.len hlt));have hl2:In (cJ (db (a_ l i) (bG (a_ l i) i)).1 i (db (a_ l i) (bG (a_ l i) i)).2) i:=hi1.len (by rw[cC,hlt]);have hl3:bG (cJ (db (a_ l i) (bG (a_ l i) i)).1 i (db (a_ l i) (bG (a_ l i) i)).2) i=Tree.lt (a_ l i) (bG (a_ l i) i):=by
     simp only[bG,cJ,uY (hi1.len hlt),gU];rfl
    have hl4:In (cJ (db (a_ l i) (bG (a_ l i) i)).1 i (db (a_ l i) (bG (a_ l i) i)).2) (bG (cJ (db (a_ l i) (bG (a_ l i) i)).1 i (db (a_ l i) (bG (a_ l i) i)).2) i):=by
     rw[hl3];exact hlr.len (by rw[cC,hlt])
    refine⟨(s1.H7 (by omega) hl2 hl4).mono (by omega),?_⟩;exact hl4.len (by rw[cC,hlt,gd])
   ·exact⟨(m.H7 (by omega) hi1 hl).mono (by omega),hl.len (gd _ _).symm⟩
  ·exact⟨m.mono (by omega),hi⟩
section
variable (t:Nat) (ap:Option Pt) (s:Sl) (tp sz rm:Int) (l:List Nd)
theorem uP(i:Int)(hi:i=-1∨In l i):bm (IH (some ⟨t,0⟩) i) (ah t [.ptr ap,.sl s,.int .i64 tp,.int .i64 sz,.int .i64 rm]^aP s KN l) (λr=>bh (r=Aa l i) (ah t [.ptr ap,.sl s,.int .i64 tp,.int .i64 sz,.int .i64 rm]^aP s KN l)):=
 br λw0 S R h=>by
  refine ae (λc=>?_) λc=>?_
  ·have c:i=-1:=bV;exact au.aE (by rw[c];rfl) h
  ·have c:i≠-1:=bV;have hi:=hi.resolve_left c;refine ac (aj h rfl (im h hi (rdH h hi ?_)));exact au.aE (by rw[Aa,ay c]) h
theorem rF(i:Int)(hi:In l i)(B:Int)(hk:Lk l B)(hB:0≤B)(hB2:B<4611686018427387904):bm (Fp (some ⟨t,0⟩) i) (ah t [.ptr ap,.sl s,.int .i64 tp,.int .i64 sz,.int .i64 rm]^aP s KN l) (λ_=>ah t [.ptr ap,.sl s,.int .i64 tp,.int .i64 sz,.int .i64 rm]^aP s KN (a_ l i)):=
 br λw0 S R h=>by
  have h1:=rq hk (hk i hi).1 hB;have h2:=rq hk (hk i hi).2.1 hB;refine ac (aj h rfl (im h hi (aH h λw h=>ac (ac (JW h hi (MT h hi ?_))))));refine af (uP t ap s tp sz rm l _ (hk i hi).1) h λr w h=>?_;obtain⟨hr,h⟩:=h.aB;rw[hr];refine ckR h hi ?_;refine af (uP t ap s tp sz rm l _ (hk i hi).2.1) h λr w h=>?_;obtain⟨hr,h⟩:=h.aB;rw[hr];have e:IntKind.i64.wrap ((if Aa l (bG l i)>Aa l (Tree.lt l i)then Aa l (bG l i)else Aa l (Tree.lt l i))+(1:Int))=max (Aa l (Tree.lt l i)) (Aa l (bG l i))+1:=by
   rw[wi (by split<;>omega) (by split<;>omega)];split<;>omega
  rw[e];refine ac ?_;refine lT h s i.toNat 4 (nth l i) ((nth l i).1,(nth l i).2.1,(nth l i).2.2.1,(nth l i).2.2.2.1,max (Aa l (Tree.lt l i)) (Aa l (bG l i))+1) (nO hi) rfl (by simp) (by simp) rfl λw h=>?_;have h:=h.eB (s:=s) (K:=KN) (ys:=a_ l i) rfl;exact h.aG
theorem yF(i:Int)(hi:In l i)(B:Int)(hk:Lk l B)(hB:0≤B)(hB2:B<4611686018427387904):bm (KO (some ⟨t,0⟩) i) (ah t [.ptr ap,.sl s,.int .i64 tp,.int .i64 sz,.int .i64 rm]^aP s KN l) (λr=>bh (r=ib l i) (ah t [.ptr ap,.sl s,.int .i64 tp,.int .i64 sz,.int .i64 rm]^aP s KN l)):=
 br λw0 S R h=>by
  have h1:=rq hk (hk i hi).1 hB;have h2:=rq hk (hk i hi).2.1 hB;refine aH h λw h=>ac (ac (aj h rfl (aj h rfl (im h hi (im h hi (JW h hi (MT h hi ?_)))))));refine af (uP t ap s tp sz rm l _ (hk i hi).1) h λr w h=>?_;obtain⟨hr,h⟩:=h.aB;rw[hr];refine ckR h hi (aI h rfl ?_);refine af (uP t ap s tp sz rm l _ (hk i hi).2.1) h λr w h=>?_;obtain⟨hr,h⟩:=h.aB;rw[hr];rw[wi (by omega) (by omega)];exact au.aE rfl h.aG
theorem wK(i:Int)(hi:In l i)(hr:In l (bG l i))(B:Int)(hk:Lk l B)(hB:0≤B)(hB2:B+1<4611686018427387904):bm (KQ (some ⟨t,0⟩) i) (ah t [.ptr ap,.sl s,.int .i64 tp,.int .i64 sz,.int .i64 rm]^aP s KN l) (λr=>bh (r=(cX l i).2) (ah t [.ptr ap,.sl s,.int .i64 tp,.int .i64 sz,.int .i64 rm]^aP s KN ((cX l i).1))):=
 br λw0 S R h=>by
  refine ac (aj h rfl (im h hi (MT h hi ?_)));refine aH h λw h=>ac (ac (ac (aj h rfl (aj h rfl (aj h rfl (im h hr (JW h hr ?_)))))));refine im h hi (We h hi λw h=>?_);have a:=(hk.rt hi (hk _ hr).1);have hr1:=hr.len (cC l i (Tree.lt l (bG l i)));refine im h hr1 (Wd h hr1 λw h=>?_);have b:=a.lt hr1 (.inr (hi.len (cC l i (Tree.lt l (bG l i)))));have hi2:In (cI (cJ l i (Tree.lt l (bG l i))) (bG l i) i) i:=hi.len (by rw[cA,cC]);refine af (rF t ap s tp sz rm _ i hi2 B b hB (by omega)) h λ_ w h=>?_;have c:=b.D2 hB hi2;refine af (rF t ap s tp sz rm _ (bG l i) (hr.len (by rw[gd,cA,cC])) (B+1) c (by omega) (by omega)) h λ_ w h=>?_;have h:=h.eB (s:=s) (K:=KN) (ys:=(cX l i).1) rfl;exact au.aE rfl h.aG
theorem wN(i:Int)(hi:In l i)(hr:In l (Tree.lt l i))(B:Int)(hk:Lk l B)(hB:0≤B)(hB2:B+1<4611686018427387904):bm (KT (some ⟨t,0⟩) i) (ah t [.ptr ap,.sl s,.int .i64 tp,.int .i64 sz,.int .i64 rm]^aP s KN l) (λr=>bh (r=(db l i).2) (ah t [.ptr ap,.sl s,.int .i64 tp,.int .i64 sz,.int .i64 rm]^aP s KN ((db l i).1))):=
 br λw0 S R h=>by
  refine ac (aj h rfl (im h hi (JW h hi ?_)));refine aH h λw h=>ac (ac (ac (aj h rfl (aj h rfl (aj h rfl (im h hr (MT h hr ?_)))))));refine im h hi (Wd h hi λw h=>?_);have a:=(hk.lt hi (hk _ hr).2.1);have hr1:=hr.len (cA l i (bG l (Tree.lt l i)));refine im h hr1 (We h hr1 λw h=>?_);have b:=a.rt hr1 (.inr (hi.len (cA l i (bG l (Tree.lt l i)))));have hi2:In (cJ (cI l i (bG l (Tree.lt l i))) (Tree.lt l i) i) i:=hi.len (by rw[cC,cA]);refine af (rF t ap s tp sz rm _ i hi2 B b hB (by omega)) h λ_ w h=>?_;have c:=b.D2 hB hi2;refine af (rF t ap s tp sz rm _ (Tree.lt l i) (hr.len (by rw[gd,cC,cA])) (B+1) c (by omega) (by omega)) h λ_ w h=>?_;have h:=h.eB (s:=s) (K:=KN) (ys:=(db l i).1) rfl;exact au.aE rfl h.aG
theorem uG(i:Int)(hi:In l i)(B:Int)(hk:Lk l B)(hB:0≤B)(hB2:B+5<4611686018427387904):bm (IE (some ⟨t,0⟩) i) (ah t [.ptr ap,.sl s,.int .i64 tp,.int .i64 sz,.int .i64 rm]^aP s KN l) (λr=>bh (r=(fJ l i).2) (ah t [.ptr ap,.sl s,.int .i64 tp,.int .i64 sz,.int .i64 rm]^aP s KN ((fJ l i).1))):=
 br λw0 S R h=>by
  refine af (rF t ap s tp sz rm l i hi B hk hB (by omega)) h λ_ w h=>?_;have m:=hk.D2 hB hi;have hi1:In (a_ l i) i:=hi.len (gd _ _);refine af (yF t ap s tp sz rm (a_ l i) i hi1 (B+1) m (by omega) (by omega)) h λr w h=>?_;obtain⟨hr,h⟩:=h.aB;rw[hr];have hdef:fJ l i=if ib (a_ l i) i>1 then
    db (if ib (a_ l i) (Tree.lt (a_ l i) i)<0 then cI (cX (a_ l i) (Tree.lt (a_ l i) i)).1 i (cX (a_ l i) (Tree.lt (a_ l i) i)).2 else a_ l i) i
   else if ib (a_ l i) i< -1 then
    cX (if ib (a_ l i) (bG (a_ l i) i)>0 then cJ (db (a_ l i) (bG (a_ l i) i)).1 i (db (a_ l i) (bG (a_ l i) i)).2 else a_ l i) i
   else(a_ l i,i):=rfl
  rw[hdef];clear hdef;generalize a_ l i=l at*
  refine ae (λc=>?_) λc=>?_
  ·have c:ib l i>1:=bJ c;rw[aC c];have hl:=B1 m (by omega) hi1 (by omega);refine ac (aj h rfl (im h hi1 (JW h hi1 ?_)));refine af (yF t ap s tp sz rm l _ hl (B+1) m (by omega) (by omega)) h λr w h=>?_;obtain⟨hr,h⟩:=h.aB;rw[hr];refine ae (λc2=>?_) λc2=>?_
   ·have c2:ib l (Tree.lt l i)<0:=bJ c2;rw[aC c2];have hlr:=B2 m (by omega) hl c2;have tt:=m.H7 (by omega) hl hlr;have hlt:=sP l (Tree.lt l i);refine aH h λw h=>ac (ac (aj h rfl (aj h rfl (im h hi1 (JW h hi1 ?_)))));refine af (wK t ap s tp sz rm l _ hl hlr (B+1) m (by omega) (by omega)) h λr w h=>?_;obtain⟨hr,h⟩:=h.aB;rw[hr];have hr2:(cX l (Tree.lt l i)).2=bG l (Tree.lt l i):=rfl;have hi2:In (cX l (Tree.lt l i)).1 i:=hi1.len hlt;refine aI h rfl (im h hi2 (Wd h hi2 λw h=>?_));have s1:=tt.lt (v:=(cX l (Tree.lt l i)).2) hi2 (.inr (hlr.len hlt));have hi3:In (cI (cX l (Tree.lt l i)).1 i (cX l (Tree.lt l i)).2) i:=hi2.len (cA _ _ _);have hl3:Tree.lt (cI (cX l (Tree.lt l i)).1 i (cX l (Tree.lt l i)).2) i=bG l (Tree.lt l i):=by
     simp only[Tree.lt,cI,uY hi2,gU];rfl
    have hl4:In (cI (cX l (Tree.lt l i)).1 i (cX l (Tree.lt l i)).2) (Tree.lt (cI (cX l (Tree.lt l i)).1 i (cX l (Tree.lt l i)).2) i):=by
     rw[hl3];exact hlr.len (by rw[cA,hlt])
    generalize cI (cX l (Tree.lt l i)).1 i (cX l (Tree.lt l i)).2=l2 at*
    refine af (wN t ap s tp sz rm l2 i hi3 hl4 _ s1 (by omega) (by omega)) h λr w h=>?_;obtain⟨hr,h⟩:=h.aB;rw[hr];exact au.aE rfl h.aG
   ·have c2:¬ib l (Tree.lt l i)<0:=bQ c2;rw[ay c2];refine af (wN t ap s tp sz rm l i hi1 hl _ m (by omega) (by omega)) h λr w h=>?_;obtain⟨hr,h⟩:=h.aB;rw[hr];exact au.aE rfl h.aG
  have c:¬ib l i>1:=bQ c;rw[ay c];refine ae (λc=>?_) λc=>?_
  ·have c:ib l i< -1:=bJ c;rw[aC c];have hl:=B2 m (by omega) hi1 (by omega);refine ac (aj h rfl (im h hi1 (MT h hi1 ?_)));refine af (yF t ap s tp sz rm l _ hl (B+1) m (by omega) (by omega)) h λr w h=>?_;obtain⟨hr,h⟩:=h.aB;rw[hr];refine ae (λc2=>?_) λc2=>?_
   ·have c2:ib l (bG l i)>0:=bJ c2;rw[aC c2];have hlr:=B1 m (by omega) hl c2;have tt:=m.H8 (by omega) hl hlr;have hlt:=sQ l (bG l i);refine aH h λw h=>ac (ac (aj h rfl (aj h rfl (im h hi1 (MT h hi1 ?_)))));refine af (wN t ap s tp sz rm l _ hl hlr (B+1) m (by omega) (by omega)) h λr w h=>?_;obtain⟨hr,h⟩:=h.aB;rw[hr];have hi2:In (db l (bG l i)).1 i:=hi1.len hlt;refine aI h rfl (im h hi2 (We h hi2 λw h=>?_));have s1:=tt.rt (v:=(db l (bG l i)).2) hi2 (.inr (hlr.len hlt));have hi3:In (cJ (db l (bG l i)).1 i (db l (bG l i)).2) i:=hi2.len (cC _ _ _);have hl3:bG (cJ (db l (bG l i)).1 i (db l (bG l i)).2) i=Tree.lt l (bG l i):=by
     simp only[bG,cJ,uY hi2,gU];rfl
    have hl4:In (cJ (db l (bG l i)).1 i (db l (bG l i)).2) (bG (cJ (db l (bG l i)).1 i (db l (bG l i)).2) i):=by
     rw[hl3];exact hlr.len (by rw[cC,hlt])
    generalize cJ (db l (bG l i)).1 i (db l (bG l i)).2=l2 at*
    refine af (wK t ap s tp sz rm l2 i hi3 hl4 _ s1 (by omega) (by omega)) h λr w h=>?_;obtain⟨hr,h⟩:=h.aB;rw[hr];exact au.aE rfl h.aG
   ·have c2:¬ib l (bG l i)>0:=bQ c2;rw[ay c2];refine af (wK t ap s tp sz rm l i hi1 hl _ m (by omega) (by omega)) h λr w h=>?_;obtain⟨hr,h⟩:=h.aB;rw[hr];exact au.aE rfl h.aG
  have c:¬ib l i< -1:=bQ c;rw[ay c];exact au.aE rfl h.aG
end
theorem EH{ws:List Int}{n:Nat}{x:Int}(h:ws[n]?=some x):(ws.take (n+1)).reverse=x::(ws.take n).reverse:=by
 rw[lF,h];simp
theorem Lz(t:Nat)(ap:Option Pt)(s:Sl)(tp sz rm:Int)(l:List Nd)(o:Sl)(ws:List Int)(was i:Int)(hw:∀x∈ws,In l x)(hi:In l i)(B:Int)(hk:Lk l B)(hB:0≤B)(hB2:B+5*ws.length<4611686018427387904)(hll:l.length<4611686018427387904):
  bm (RZ (some ⟨t,0⟩) o was i) ((ah t [.ptr ap,.sl s,.int .i64 tp,.int .i64 sz,.int .i64 rm]^aP s KN l)^ba o KI ws)
   (λ_=>ah t [.ptr ap,.sl s,.int .i64 ((ia l was i ws.reverse).2+1),.int .i64 sz,.int .i64 rm]^aP s KN (ia l was i ws.reverse).1):=
 br λw0 S R h=>by
  have h:au w0 S R w0 (ba o KI ws^(ah t [.ptr ap,.sl s,.int .i64 tp,.int .i64 sz,.int .i64 rm]^aP s KN l)):=h.le (aV _ _);have hlen:=(h.rd (s:=o)).2;have e0:IntKind.i64.wrap (((o.len:Nat):Int)-1)=(ws.length:Int)-1:=by rw[hlen];exact wi (by omega) (by omega)
  rw[e0];refine gn (λ(_:Ai) (x:List Nd)=>ba o KI ws^(ah t [.ptr ap,.sl s,.int .i64 tp,.int .i64 sz,.int .i64 rm]^aP s KN x)) (λ(y:Ai) (x:List Nd)=>(-1≤y.2.2∧y.2.2<(ws.length:Int))∧x.length=l.length∧In x y.2.1∧Lk x (B+5*((ws.length:Int)-1-y.2.2))∧ia l was i ws.reverse=ia x y.1 y.2.1 (ws.take (y.2.2+1).toNat).reverse) (λ(y:Ai) _=>(y.2.2+1).toNat) l h ?_ ?_
  ·refine⟨⟨by show-1≤(ws.length:Int)-1;omega,by show(ws.length:Int)-1<_;omega⟩,rfl,hi,?_,?_⟩
   ·exact hk.mono (by show B≤B+5*((ws.length:Int)-1-((ws.length:Int)-1));omega)
   ·show ia l was i ws.reverse=ia l was i (ws.take (((ws.length:Int)-1)+1).toNat).reverse;rw[kp (by omega)]
  rintro K (⟨wa,j,n⟩:Ai) x w ⟨⟨n0,n1⟩,hx,hj,hkx,he⟩ h hK;dsimp only at n0 n1 hx hj hkx he hK⊢;refine ae (λc=>?_) λc=>?_
  ·have c:n≥0:=bJ c;have hn:n.toNat<ws.length:=(by omega);obtain⟨up,hup⟩:∃p,ws[n.toNat]?=some p:=⟨_,bT hn⟩;have hu:In x up:=(hw up (kQ hup)).len hx;have en:(n+1).toNat=n.toNat+1:=(by omega);rw[en,EH hup,ia]at he;refine bR (s:=o) h c hn (dW h o n.toNat hup rfl ?_);have en1:IntKind.i64.wrap (n-1)=n-1:=wi (by omega) (by omega);have en2:(n-1+1).toNat=n.toNat:=(by omega);refine aK h (λ_=>ba o KI ws^(ah t [.ptr ap,.sl s,.int .i64 tp,.int .i64 sz,.int .i64 rm]^aP s KN x)) (λy:Bool=>y=decide (Tree.lt x up=wa∧(wa≠-1∨kX (jn x j) (jn x up)=true))) (λ(y:Bool) w hy h=>?_) ?_
   ·rw[hy];refine ae (λc2=>?_) λc2=>?_
    ·have c2:=bJ c2;rw[aC c2]at he;refine ac (aj h rfl (im (s:=s) h hu (Wd h hu λw h=>?_)));have k1:=hkx.lt hu (.inr hj);have hu1:In (cI x up j) up:=hu.len (cA _ _ _);have k2:=k1.even (by omega) hu1;refine af (uG t ap s tp sz rm (cI x up j) up hu1 _ k1 (by omega) (by omega)) h λr w h=>?_;obtain⟨hr,h⟩:=h.aB;have hle:=pe (cI x up j) up;rw[cA]at hle;generalize fJ (cI x up j) up=q at*
     rw[hr,en1];refine hK (up,q.2,n-1) q.1 w ⟨⟨by show-1≤n-1;omega,by show n-1<(ws.length:Int);omega⟩,hle.trans hx,k2.2.len (by rw[hle,cA]),k2.1.mono (by show _≤B+5*((ws.length:Int)-1-(n-1));omega),?_⟩ h.aG (by show(n-1+1).toNat<_;omega);show _=ia q.1 up q.2 (ws.take (n-1+1).toNat).reverse;rw[en2];exact he
    ·have c2:=bQ c2;rw[ay c2]at he;refine ac (aj h rfl (im (s:=s) h hu (We h hu λw h=>?_)));have k1:=hkx.rt hu (.inr hj);have hu1:In (cJ x up j) up:=hu.len (cC _ _ _);have k2:=k1.even (by omega) hu1;refine af (uG t ap s tp sz rm (cJ x up j) up hu1 _ k1 (by omega) (by omega)) h λr w h=>?_;obtain⟨hr,h⟩:=h.aB;have hle:=pe (cJ x up j) up;rw[cC]at hle;generalize fJ (cJ x up j) up=q at*
     rw[hr,en1];refine hK (up,q.2,n-1) q.1 w ⟨⟨by show-1≤n-1;omega,by show n-1<(ws.length:Int);omega⟩,hle.trans hx,k2.2.len (by rw[hle,cC]),k2.1.mono (by show _≤B+5*((ws.length:Int)-1-(n-1));omega),?_⟩ h.aG (by show(n-1+1).toNat<_;omega);show _=ia q.1 up q.2 (ws.take (n-1+1).toNat).reverse;rw[en2];exact he
   ·refine aH h λw h=>ac (aj h rfl (im (s:=s) h hu (JW h hu ?_)));refine ae (λc2=>?_) λc2=>?_
    ·have c2:Tree.lt x up=wa:=gk;refine ae (λc3=>?_) λc3=>?_
     ·have c3:wa≠-1:=(by simpa using c3);exact⟨by rw[jk];simp[c2,c3],h⟩
     ·have c3:wa=-1:=(by simpa using c3);refine ac (ac (aj h rfl (aj h rfl (im (s:=s) h hj (im (s:=s) h hu (UP h hj (UP h hu ?_)))))));refine af (Dy (jn x j) (jn x up)) h λr w h=>?_;obtain⟨hr,h⟩:=h.aB;refine⟨?_,h.aG⟩;rw[jk,gK,gK,hr,LK];simp[c2,c3]
    ·have c2:Tree.lt x up≠wa:=gk;exact⟨by rw[jk];simp[c2],h⟩
  ·have c:¬n≥0:=bQ c;have en:(n+1).toNat=0:=(by omega);rw[en,Cw,List.reverse_nil,ia]at he;rw[he];have hr1:IntKind.i64.wrap (j+1)=j+1:=wi (by have:=hj.1;omega) (by have:=hj.2;omega);rw[hr1];refine ac (aU h rfl λw h=>?_);dsimp only[dj,over]at h;exact h.aG
theorem nI(t:Nat)(ap:Option Pt)(s:Sl)(tp sz rm:Int)(l:List Nd)(o:Sl)(ws:List Int)(was i:Int)(hw:∀x∈ws,In l x)(hi:i=-1∨In l i)(B:Int)(hk:Lk l B)(hB:0≤B)(hB2:B+5*ws.length<4611686018427387904)(hll:l.length<4611686018427387904):
  bm (SK (some ⟨t,0⟩) o was i) ((ah t [.ptr ap,.sl s,.int .i64 tp,.int .i64 sz,.int .i64 rm]^aP s KN l)^ba o KI ws)
   (λ_=>ah t [.ptr ap,.sl s,.int .i64 ((lu l was i ws.reverse).2+1),.int .i64 sz,.int .i64 rm]^aP s KN (lu l was i ws.reverse).1):=
 br λw0 S R h=>by
  have h:au w0 S R w0 (ba o KI ws^(ah t [.ptr ap,.sl s,.int .i64 tp,.int .i64 sz,.int .i64 rm]^aP s KN l)):=h.le (aV _ _);have hlen:=(h.rd (s:=o)).2;have e0:IntKind.i64.wrap (((o.len:Nat):Int)-1)=(ws.length:Int)-1:=by rw[hlen];exact wi (by omega) (by omega)
  rw[e0];refine gn (λ(_:Ai) (x:List Nd)=>ba o KI ws^(ah t [.ptr ap,.sl s,.int .i64 tp,.int .i64 sz,.int .i64 rm]^aP s KN x)) (λ(y:Ai) (x:List Nd)=>(-1≤y.2.2∧y.2.2<(ws.length:Int))∧x.length=l.length∧(y.2.1=-1∨In x y.2.1)∧Lk x (B+5*((ws.length:Int)-1-y.2.2))∧lu l was i ws.reverse=lu x y.1 y.2.1 (ws.take (y.2.2+1).toNat).reverse) (λ(y:Ai) _=>(y.2.2+1).toNat) l h ?_ ?_
  ·refine⟨⟨by show-1≤(ws.length:Int)-1;omega,by show(ws.length:Int)-1<_;omega⟩,rfl,hi,?_,?_⟩
   ·exact hk.mono (by show B≤B+5*((ws.length:Int)-1-((ws.length:Int)-1));omega)
   ·show lu l was i ws.reverse=lu l was i (ws.take (((ws.length:Int)-1)+1).toNat).reverse;rw[kp (by omega)]
  rintro K (⟨wa,j,n⟩:Ai) x w ⟨⟨n0,n1⟩,hx,hj,hkx,he⟩ h hK;dsimp only at n0 n1 hx hj hkx he hK⊢;refine ae (λc=>?_) λc=>?_
  ·have c:n≥0:=bJ c;have hn:n.toNat<ws.length:=(by omega);obtain⟨up,hup⟩:∃p,ws[n.toNat]?=some p:=⟨_,bT hn⟩;have hu:In x up:=(hw up (kQ hup)).len hx;have en:(n+1).toNat=n.toNat+1:=(by omega);rw[en,EH hup,lu]at he;refine bR (s:=o) h c hn (dW h o n.toNat hup rfl ?_);have en1:IntKind.i64.wrap (n-1)=n-1:=wi (by omega) (by omega);have en2:(n-1+1).toNat=n.toNat:=(by omega);refine ac (aj h rfl (im (s:=s) h hu (JW h hu ?_)));refine ae (λc2=>?_) λc2=>?_
   ·have c2:Tree.lt x up=wa:=gk;rw[aC c2]at he;refine ac (aj h rfl (im (s:=s) h hu (Wd h hu λw h=>?_)));have k1:=hkx.lt hu hj;have hu1:In (cI x up j) up:=hu.len (cA _ _ _);have k2:=k1.even (by omega) hu1;refine af (uG t ap s tp sz rm (cI x up j) up hu1 _ k1 (by omega) (by omega)) h λr w h=>?_;obtain⟨hr,h⟩:=h.aB;have hle:=pe (cI x up j) up;rw[cA]at hle;generalize fJ (cI x up j) up=q at*
    rw[hr,en1];refine hK (up,q.2,n-1) q.1 w ⟨⟨by show-1≤n-1;omega,by show n-1<(ws.length:Int);omega⟩,hle.trans hx,.inr (k2.2.len (by rw[hle,cA])),k2.1.mono (by show _≤B+5*((ws.length:Int)-1-(n-1));omega),?_⟩ h.aG (by show(n-1+1).toNat<_;omega);show _=lu q.1 up q.2 (ws.take (n-1+1).toNat).reverse;rw[en2];exact he
   ·have c2:Tree.lt x up≠wa:=gk;rw[ay c2]at he;refine ac (aj h rfl (im (s:=s) h hu (We h hu λw h=>?_)));have k1:=hkx.rt hu hj;have hu1:In (cJ x up j) up:=hu.len (cC _ _ _);have k2:=k1.even (by omega) hu1;refine af (uG t ap s tp sz rm (cJ x up j) up hu1 _ k1 (by omega) (by omega)) h λr w h=>?_;obtain⟨hr,h⟩:=h.aB;have hle:=pe (cJ x up j) up;rw[cC]at hle;generalize fJ (cJ x up j) up=q at*
    rw[hr,en1];refine hK (up,q.2,n-1) q.1 w ⟨⟨by show-1≤n-1;omega,by show n-1<(ws.length:Int);omega⟩,hle.trans hx,.inr (k2.2.len (by rw[hle,cC])),k2.1.mono (by show _≤B+5*((ws.length:Int)-1-(n-1));omega),?_⟩ h.aG (by show(n-1+1).toNat<_;omega);show _=lu q.1 up q.2 (ws.take (n-1+1).toNat).reverse;rw[en2];exact he
  ·have c:¬n≥0:=bQ c;have en:(n+1).toNat=0:=(by omega);rw[en,Cw,List.reverse_nil,lu]at he;rw[he];have hr1:IntKind.i64.wrap (j+1)=j+1:=by
    rcases hj with hj|hj
    ·exact wi (by omega) (by omega)
    ·exact wi (by have:=hj.1;omega) (by have:=hj.2;omega)
   rw[hr1];refine ac (aU h rfl λw h=>?_);dsimp only[dj,over]at h;exact h.aG
end xV

namespace AE
open _root_.Go.X.Tree xV
theorem Ji(n:Int):bm (Ry n) aT (λr=>ex λa:Nat=>bh (r=some ⟨a,0⟩) (ah a [.sl ⟨none,0,0⟩,.sl ⟨none,0,0⟩,.int .i64 (min (max n 0) 4096)])):=
 br λw0 S R h=>by
  have e:(if(4096:Int)<(if(0:Int)>n then(0:Int)else n)then(4096:Int)else(if(0:Int)>n then(0:Int)else n))=min (max n 0) 4096:=by(repeat' split)<;>omega
  rw[e];refine aA h λa w h=>?_;exact au.gX a (au.aE rfl h.aG)
section
variable (a:Nat) (s1 s2:Sl) (us:List Bool) (fr:List Int) (rm:Int)
theorem Po(i:Int)(f:List Int)(hf:fr=f++[i])(hi:0≤i∧i.toNat<us.length)(hl:fr.length<4611686018427387904):bm (Oy (some ⟨a,0⟩)) (ah a [.sl s1,.sl s2,.int .i64 rm]^aP s1 KB us^aP s2 KI fr)
  (λr=>ex λs2':Sl=>bh (r=(i,0)) (ah a [.sl s1,.sl s2',.int .i64 rm]^aP s1 KB (us.set i.toNat true)^aP s2' KI f)):=
 br λw0 S R h=>by
  have h:au w0 S R w0 (aP s1 KB us^aP s2 KI fr^ah a [.sl s1,.sl s2,.int .i64 rm]):=h.aG;have hl2:=(h.drop.rd (s:=s2)).2;have hfl:fr.length=f.length+1:=by rw[hf];simp
  refine ae (λc=>(by cases c)) λ_=>ac (aj h rfl (ae (λc=>?_) λc=>?_))
  ·have e:IntKind.i64.wrap (((s2.len:Nat):Int)-1)=(f.length:Int):=(by rw[hl2,hfl];rw[wi (by omega) (by omega)];omega);have hat:fr[((f.length:Nat):Int).toNat]?=some i:=(by rw[hf];simp);dsimp only;rw[e];refine ac (aj h rfl (bR (s:=s2) h (by omega) (by omega) (dW h s2 ((f.length:Nat):Int).toNat hat rfl (ac (aj h rfl ?_)))));have hc:=oz (s:=s2) h;refine vF (s:=s2) h 0 f.length s2.cap rfl rfl rfl rfl (by omega) (by omega) (by omega) (by omega) λs' hs1 hs2 h=>?_;have e2:(fr.take f.length).drop 0=f:=(by rw[hf];simp);have h:=h.eB (s:=s') (K:=KI) e2;refine ac (aU h rfl λw h=>?_);dsimp only[dj,over]at h;refine ac (aj h rfl ?_);refine bR (s:=s1) h hi.1 hi.2 ?_;refine lT h s1 i.toNat 0 us[i.toNat] true (bT hi.2) rfl (by simp) (by simp) rfl λw h=>?_;exact au.gX s' (au.aE rfl h.aG)
  ·have c:¬((s2.len:Nat):Int)>0:=bQ c;omega
theorem Pn(hl:(us.length:Int)<rm)(hr:rm≤4096):bm (Oy (some ⟨a,0⟩)) (ah a [.sl s1,.sl s2,.int .i64 rm]^aP s1 KB us^aP s2 KI [])
  (λr=>ex λs1':Sl=>bh (r=((us.length:Int),0)) (ah a [.sl s1',.sl s2,.int .i64 rm]^aP s1' KB (us++[true])^aP s2 KI [])):=
 br λw0 S R h=>by
  have h:au w0 S R w0 (aP s1 KB us^aP s2 KI []^ah a [.sl s1,.sl s2,.int .i64 rm]):=h.aG;have hl2:=(h.drop.rd (s:=s2)).2;have hl1:=(h.rd (s:=s1)).2;refine ae (λc=>(by cases c)) λ_=>ac (aj h rfl (ae (λc=>?_) λ_=>?_))
  ·have c:((s2.len:Nat):Int)>0:=bJ c;have:s2.len=0:=hl2;omega
  refine aH h λw h=>ac (ac (aj h rfl (aj h rfl (ae (λc=>?_) λ_=>?_))))
  ·have c:((s1.len:Nat):Int)≥rm:=bJ c;omega
  refine ac (aj h rfl ?_);refine aA h λn w h=>?_;have h:=h.cT n KB [true] rfl (by simp);refine dE (s:=s1) (x:=⟨some ⟨n,0⟩,1,1⟩) h rfl (by simp;omega) λs' w hs' h=>?_;refine ac (aU h rfl λw h=>?_);dsimp only[dj,over]at h;refine ac (aj h rfl ?_);have e:IntKind.i64.wrap (((s'.len:Nat):Int)-1)=(us.length:Int):=by
   have:s'.len=us.length+1:=(by simpa using hs');rw[this,wi (by omega) (by omega)];omega
  rw[e];exact au.gX s' (au.aE rfl h.aG)
theorem xB(i:Int)(hi:0≤i∧i.toNat<us.length):bm (Ta (some ⟨a,0⟩) i) (ah a [.sl s1,.sl s2,.int .i64 rm]^aP s1 KB us) (λr=>bh (us[i.toNat]?=some r) (ah a [.sl s1,.sl s2,.int .i64 rm]^aP s1 KB us)):=
 br λw0 S R h=>by
  have hl1:=(h.drop.rd (s:=s1)).2;refine ae (λ_=>?_) λc=>?_
  ·refine ac (aj h rfl (ae (λ_=>?_) λc=>?_))
   ·refine ac (aj h rfl (bR (s:=s1) h hi.1 hi.2 (dW h s1 i.toNat (bT hi.2) rfl ?_)));exact au.aE (bT hi.2) h
   ·have c:¬i<((s1.len:Nat):Int):=bQ c;omega
  ·simp at c;omega
theorem Lr(i:Int)(hi:0≤i∧i.toNat<us.length)(hu:us[i.toNat]?=some true)(hr:(us.length:Int)≤rm)(hl:fr.length<4294967295):bm (SL (some ⟨a,0⟩) i) (ah a [.sl s1,.sl s2,.int .i64 rm]^aP s1 KB us^aP s2 KI fr)
  (λr=>ex λs2':Sl=>bh (r=0) (ah a [.sl s1,.sl s2',.int .i64 rm]^aP s1 KB (us.set i.toNat false)^aP s2' KI (fr++[i]))):=
 br λw0 S R h=>by
  refine ae (λc=>(by cases c)) λ_=>?_;refine aK h (λ_=>ah a [.sl s1,.sl s2,.int .i64 rm]^aP s1 KB us^aP s2 KI fr) (λy:Bool=>y=false) (λ(y:Bool) w hy h=>?_) ?_
  ·rw[hy];refine ae (λc=>(by cases c)) λ_=>?_;refine af (xB a s1 s2 us rm i hi) h λr w h=>?_;obtain⟨hr,h⟩:=h.aB;rw[hu]at hr;have hr:r=true:=by cases hr;rfl
   rw[hr];refine ae (λc=>(by cases c)) λ_=>?_;refine ac (aj h rfl (bR (s:=s1) h hi.1 hi.2 ?_));refine lT h s1 i.toNat 0 us[i.toNat] false (bT hi.2) rfl (by simp) (by simp) rfl λw h=>?_;refine ac (aj h rfl ?_);refine aA h λn w h=>?_;have h:=h.cT n KI [i] rfl (by simp);refine dE (s:=s2) (x:=⟨some ⟨n,0⟩,1,1⟩) h rfl (by simp;omega) λs' w hs' h=>?_;refine ac (aU h rfl λw h=>?_);dsimp only[dj,over]at h;exact au.gX s' (au.aE rfl h.aG)
  ·refine ae (λc=>?_) λ_=>?_
   ·have c:i<0:=bJ c;omega
   ·refine ac (aj h rfl ⟨?_,h⟩);exact mZ (by omega)
end
def rX:Tr→List Int
 |.e=>[]
 |.n _ i _ _=>[(i:Int)]
def gT(p:Tr×List je):List Int:=(gz p.2).reverse++rX p.1
def kb:Tr→List Int
 |.e=>[]
 |.n l i _ _=>(i:Int)::kb l
theorem nU{l:List Nd}{L R:Tr}{i:Nat}{k:Key}(h:g_ l (.n L i k R)):In l (i:Int)∧nth l (i:Int)=(k.1,k.2,L.rt,R.rt,max L.ht R.ht+1):=
 ⟨⟨by omega,by rw[eR];exact(gJ.1 h.1).1⟩,gh h.1⟩
theorem xC:∀t:Tr,t.ht≤t.ino.length
 |.e=>by simp[Tr.ht,Tr.ino]
 |.n l i k r=>by
  have h1:=xC l;have h2:=xC r;simp only[Tr.ht,Tr.ino,iE,kS];omega
def tz:Tr→Nat
 |.e=>0
 |.n l _ _ r=>tz l+tz r+1
theorem CZ(k:Key):∀(t:Tr) (c:List je),(find k t c).2.length≤c.length+tz t
 |.e,c=>by simp[find,tz]
 |.n l i m r,c=>by
  have h1:=CZ k l (.L i m r::c);have h2:=CZ k r (.R l i m::c);unfold find;simp only[tz,kS]at*;split
  ·omega
  ·split
   ·simp only;omega
   ·omega
section
variable (t:Nat) (ap:Option Pt) (s:Sl) (sz rm:Int) (l:List Nd) (T:Tr)
theorem zQ(hT:g_ l T)(hl:l.length≤4096):bm (KE (some ⟨t,0⟩)) (ah t [.ptr ap,.sl s,.int .i64 (T.rt+1),.int .i64 sz,.int .i64 rm]^aP s KN l) (λr=>bh (r=T.rt) (ah t [.ptr ap,.sl s,.int .i64 (T.rt+1),.int .i64 sz,.int .i64 rm]^aP s KN l)):=
 br λw0 S R h=>by
  refine ae (λc=>(by cases c)) λ_=>ac (aj h rfl ?_);have e:IntKind.i64.wrap (T.rt+1-1)=T.rt:=by
   have:-1≤T.rt∧T.rt≤4096:=by
    cases T with
    |e=>simp[Tr.rt]
    |n L i k R=>have:=(nU hT).1.2;simp only[Tr.rt,eR]at*;omega
   rw[Int.add_sub_cancel];exact wi (by omega) (by omega)
  dsimp only;rw[e];exact au.aE rfl h
theorem Ia(hT:g_ l T)(hl:l.length≤4096)(hz:tz T≤4096)(k:Key):bm (Ow (some ⟨t,0⟩) k) (ah t [.ptr ap,.sl s,.int .i64 (T.rt+1),.int .i64 sz,.int .i64 rm]^aP s KN l) (λr=>aP r KI (gT (find k T []))^ah t [.ptr ap,.sl s,.int .i64 (T.rt+1),.int .i64 sz,.int .i64 rm]^aP s KN l):=
 br λw0 S R h=>by
  refine aA h λn1 w h=>?_;refine af (zQ t ap s sz rm l T hT hl) h λr w h=>?_;obtain⟨hr,h⟩:=h.aB;rw[hr];have h:=h.nil KI;have h:=h.eB (s:=⟨none,0,0⟩) (K:=KI) (ys:=(gz []).reverse) rfl;have h:au w0 S R w (aP ⟨none,0,0⟩ KI (gz []).reverse^ah n1 (Ks.mk [.int .u64,.int .u64] k)^ah t [.ptr ap,.sl s,.int .i64 (T.rt+1),.int .i64 sz,.int .i64 rm]^aP s KN l):=h.aG;refine gn (λ(y:Sl×Int) (x:Tr×List je)=>aP y.1 KI (gz x.2).reverse^ah n1 (Ks.mk [.int .u64,.int .u64] k)^ah t [.ptr ap,.sl s,.int .i64 (T.rt+1),.int .i64 sz,.int .i64 rm]^aP s KN l) (λ(y:Sl×Int) (x:Tr×List je)=>y.2=x.1.rt∧g_ l x.1∧find k T []=find k x.1 x.2∧x.2.length+tz x.1≤4096) (λ_ (x:Tr×List je)=>tz x.1) (T,[]) h ⟨rfl,hT,rfl,by simpa using hz⟩ ?_;rintro K (⟨q,i⟩:Sl×Int) ⟨sub,c⟩ w ⟨hi,hs,hf,hn⟩ h hK;dsimp only at hi hs hf hn h hK⊢;cases sub with
  |e=>
   rw[hi];refine ae (λc=>(by simp[Tr.rt]at c)) λ_=>?_;rw[hf];have h:=h.eB (s:=q) (K:=KI) (ys:=gT (find k .e c)) (by simp[gT,find,rX]);exact h.aG
  |n L j m Rr=>
   obtain⟨hin,hnt⟩:=nU hs;have hi:i=(j:Int):=hi;rw[hi];refine ae (λ_=>?_) λc=>(by have c:((j:Int)!= -1)=false:=c;simp at c);refine aA h λn5 w h=>?_;have h:=h.cT n5 KI [(j:Int)] rfl (by simp);simp only[tz]at hn;refine dE (s:=q) (x:=⟨some ⟨n5,0⟩,1,1⟩) h rfl (by simp[gz];omega) λs6 w _ h=>?_;refine aH h λw h=>ar (x:=k) h rfl (ac (aj h rfl (im (s:=s) h hin (UP h hin ?_))));have ek:jn l (j:Int)=m:=by rw[jn,hnt]
   have el:Tree.lt l (j:Int)=L.rt:=(by rw[Tree.lt,hnt]);have er:bG l (j:Int)=Rr.rt:=(by rw[bG,hnt]);rw[ek];refine af (Dy k m) h λr w h=>?_;obtain⟨hr,h⟩:=h.aB;rw[hr];rw[find]at hf;refine ae (λc1=>?_) λc1=>?_
   ·have c1:kX k m=true:=LK.1 (bJ c1);rw[aC c1]at hf;refine ac (aj h rfl (im (s:=s) h hin (JW h hin ?_)));rw[el];have h:=h.eB (s:=s6) (K:=KI) (ys:=(gz (.L j m Rr::c)).reverse) (by simp[gz,je.i]);exact hK (s6,L.rt) (L,.L j m Rr::c) w ⟨rfl,hs.2.1,hf,by simp;omega⟩ h.aG (by simp only[tz];omega)
   have c1:kX k m=false:=by
    have:=bQ c1;rw[LK]at this;simpa using this
   rw[ay (by rw[c1];simp)]at hf;refine ae (λc2=>?_) λc2=>?_
   ·have c2:=(QI.1 (bJ c2)).2;rw[ay c2]at hf;refine ac (aj h rfl (im (s:=s) h hin (MT h hin ?_)));rw[er];have h:=h.eB (s:=s6) (K:=KI) (ys:=(gz (.R L j m::c)).reverse) (by simp[gz,je.i]);exact hK (s6,Rr.rt) (Rr,.R L j m::c) w ⟨rfl,hs.2.2,hf,by simp;omega⟩ h.aG (by simp only[tz];omega)
   ·have c2:=bQ c2;rw[QI]at c2;have c2:k=m:=by
     by_cases e:k=m
     ·exact e
     ·exact absurd ⟨c1,e⟩ c2
    rw[aC c2]at hf;rw[hf];have h:=h.eB (s:=s6) (K:=KI) (ys:=gT (.n L j m Rr,c)) (by simp[gT,rX]);exact h.aG
theorem v7(hT:g_ l T)(hz:tz T≤4096)(tp:Int):bm (KG (some ⟨t,0⟩) T.rt) (ah t [.ptr ap,.sl s,.int .i64 tp,.int .i64 sz,.int .i64 rm]^aP s KN l) (λr=>aP r KI (kb T)^ah t [.ptr ap,.sl s,.int .i64 tp,.int .i64 sz,.int .i64 rm]^aP s KN l):=
 br λw0 S R h=>by
  have h:=h.nil KI;refine gn (λ(y:Int×Sl) (x:List Int×Tr)=>aP y.2 KI x.1^ah t [.ptr ap,.sl s,.int .i64 tp,.int .i64 sz,.int .i64 rm]^aP s KN l) (λ(y:Int×Sl) (x:List Int×Tr)=>y.1=x.2.rt∧g_ l x.2∧kb T=x.1++kb x.2∧x.1.length+tz x.2≤4096) (λ_ (x:List Int×Tr)=>tz x.2) ([],T) h ⟨rfl,hT,rfl,by simpa using hz⟩ ?_;rintro K (⟨i,q⟩:Int×Sl) ⟨xs,sub⟩ w ⟨hi,hs,hf,hn⟩ h hK;dsimp only at hi hs hf hn h hK⊢;cases sub with
  |e=>
   rw[hi];refine ae (λc=>(by simp[Tr.rt]at c)) λ_=>?_;rw[hf,kb,rM];exact h
  |n L j m Rr=>
   obtain⟨hin,hnt⟩:=nU hs;have hi:i=(j:Int):=hi;rw[hi];refine ae (λ_=>?_) λc=>(by have c:((j:Int)!= -1)=false:=c;simp at c);refine aA h λn5 w h=>?_;have h:=h.cT n5 KI [(j:Int)] rfl (by simp);simp only[tz]at hn;refine dE (s:=q) (x:=⟨some ⟨n5,0⟩,1,1⟩) h rfl (by simp;omega) λs6 w _ h=>?_;have el:Tree.lt l (j:Int)=L.rt:=by rw[Tree.lt,hnt]
   refine ac (aj h rfl (im (s:=s) h hin (JW h hin ?_)));rw[el];exact hK (L.rt,s6) (xs++[(j:Int)],L) w ⟨rfl,hs.2.1,by rw[hf,kb];simp,by simp;omega⟩ h.aG (by simp only[tz];omega)
theorem AN(hT:g_ l T)(hs:z_ T.ino)(hz:tz T≤4096)(k:Key)(q:Sl)(tp:Int):bm (Ox (some ⟨t,0⟩) q k) (aP q KI (gT (find k T []))^ah t [.ptr ap,.sl s,.int .i64 tp,.int .i64 sz,.int .i64 rm]^aP s KN l)
  (λr=>bh (r=(find k T []).1.rt) (aP q KI (gT (find k T []))^ah t [.ptr ap,.sl s,.int .i64 tp,.int .i64 sz,.int .i64 rm]^aP s KN l)):=
 br λw0 S R h=>by
  have hlen:=(h.rd (s:=q)).2;obtain⟨g1,g2,g3⟩:=uJ k T [] hs (by simp[lk]) (by simp[rk]);have hfill:=nq k T [];have hwl:=CZ k T [];generalize find k T []=p at*
  obtain⟨sub,c⟩:=p;dsimp only at g1 g2 g3 hfill hwl;have hR:g_ l (fill sub c):=by rw[hfill];exact hT
  obtain⟨r1,r2⟩:=jH hR;have hpl:(gT (sub,c)).length≤4097:=by
   have:(rX sub).length≤1:=(by cases sub<;>simp[rX]);simp only[gT,iE,List.length_reverse,gz,kT];simp only[rN]at hwl;omega
  refine aA h λn1 w h=>?_;have h:au w0 S R w (ah n1 (Ks.mk [.int .u64,.int .u64] k)^aP q KI (gT (sub,c))^ah t [.ptr ap,.sl s,.int .i64 tp,.int .i64 sz,.int .i64 rm]^aP s KN l):=h.aG;refine aK h (λ_=>ah n1 (Ks.mk [.int .u64,.int .u64] k)^aP q KI (gT (sub,c))^ah t [.ptr ap,.sl s,.int .i64 tp,.int .i64 sz,.int .i64 rm]^aP s KN l) (λy:Bool=>y=nE sub) (λ(y:Bool) w hy h=>?_) ?_
  ·rw[hy];refine ae (λc1=>?_) λc1=>?_
   ·rcases g3 with g3|⟨L,i,r,g3⟩
    ·rw[g3]at c1;cases c1
    have e:IntKind.i64.wrap (((q.len:Nat):Int)-1)=((gz c).length:Int):=by
     rw[hlen,wi (by omega) (by omega),gT,g3];simp[rX]
    have hat:(gT (sub,c))[(((gz c).length:Nat):Int).toNat]?=some (i:Int):=(by rw[g3,gT];simp[rX]);rw[e];refine bR (s:=q) h (by omega) (by rw[gT,g3];simp[rX]) (dW h q (((gz c).length:Nat):Int).toNat hat rfl ?_);exact au.aE (by rw[g3];rfl) h.aG
   ·have c1:sub=.e:=by
     cases sub with
     |e=>rfl
     |n L i m r=>cases c1
    exact au.aE (by rw[c1];rfl) h.aG
  ·refine aH h λw h=>ae (λc1=>?_) λc1=>?_
   ·have c1:((q.len:Nat):Int)>0:=bJ c1;have hne:(gT (sub,c)).length>0:=(by omega);have e:IntKind.i64.wrap (((q.len:Nat):Int)-1)=(((gT (sub,c)).length-1:Nat):Int):=by
     rw[hlen,wi (by omega) (by omega)];omega
    refine ar (x:=k) h rfl (ac ?_);rw[e];have hlast:∃j:Nat,(gT (sub,c))[((((gT (sub,c)).length-1:Nat):Int)).toNat]?=some (j:Int)∧In l (j:Int)∧decide (jn l (j:Int)=k)=nE sub:=by
     rw[eR];rcases g3 with g3|⟨L,i,r,g3⟩
     ·rw[g3]at hne⊢r2 hfill hR;cases c with
      |nil=>simp[gT,rX,gz]at hne
      |cons f c=>
       have hp:gT (.e,f::c)=(gz c).reverse++[(f.i:Int)]:=(by simp[gT,gz,rX]);rw[hp];refine⟨f.i,by simp,?_⟩;cases f with
       |L i m r=>
        obtain⟨⟨hx,h1⟩,_⟩:=r2;refine⟨⟨by simp[je.i],by simp only[je.i,eR];exact(gJ.1 h1).1⟩,?_⟩;have e1:jn l (i:Int)=m:=by rw[jn,gh h1]
        have e2:jn l ((je.L i m r).i:Int)=m:=e1;rw[e2];have:=g2 m (by simp[rk]);have hne:m≠k:=λe=>by rw[e,sw]at this;cases this
        simp[hne,nE]
       |R L' i m=>
        obtain⟨⟨hx,h1⟩,_⟩:=r2;refine⟨⟨by simp[je.i],by simp only[je.i,eR];exact(gJ.1 h1).1⟩,?_⟩;have e1:jn l (i:Int)=m:=by rw[jn,gh h1]
        have e2:jn l ((je.R L' i m).i:Int)=m:=e1;rw[e2];have:=g1 m (by simp[lk]);have hne:m≠k:=λe=>by rw[e,sw]at this;cases this
        simp[hne,nE]
     ·rw[g3]at r1⊢;obtain⟨hin,hnt⟩:=nU r1;have hp:gT (.n L i k r,c)=(gz c).reverse++[(i:Int)]:=by simp[gT,rX]
      rw[hp];refine⟨i,by simp,hin,?_⟩;have e1:jn l (i:Int)=k:=by rw[jn,hnt]
      rw[e1];simp[nE]
    obtain⟨j,hj1,hj2,hj3⟩:=hlast;refine bR (s:=q) h (by omega) (by rw[eR];omega) (aj h rfl (dW h q _ hj1 rfl (im (s:=s) h hj2 (UP h hj2 ?_))));refine⟨?_,h⟩;rw[←hj3,jk];simp only[fG,p_,gK];exact⟨λ⟨a,b⟩=>HD a b,λe=>by rw[e];exact⟨rfl,rfl⟩⟩
   ·have c1:¬((q.len:Nat):Int)>0:=bQ c1;refine⟨?_,h⟩;have:(gT (sub,c)).length=0:=(by omega);have hsub:sub=.e:=by
     cases sub with
     |e=>rfl
     |n L i m r=>simp[gT,rX]at this
    rw[hsub];rfl
end
end AE

namespace iy
open _root_.Go.X.Tree xV AE
open Tr (e)
theorem G1:∀t:Tr,tz t=t.cq.length
 |.e=>rfl
 |.n l i k r=>by simp[tz,Tr.cq,G1 l,G1 r];omega
structure mO(l:List Nd)(T:Tr)(us:List Bool)(fr:List Nat)(ks:List Key)(rm:Int):Prop where
 kf:g_ l T
 oT:T.oT
 ino:T.ino=ks
 wI:z_ ks
 lk:Lk l 5000
 ul:us.length=l.length
 nd:(T.cq++fr).Nodup
 all:∀i,i<l.length→i∈T.cq∨i∈fr
 lt:∀i∈fr,i<l.length
 on:∀i∈T.cq,us[i]?=some true
 rr:0≤rm∧rm≤4096
 room:(l.length:Int)≤rm
theorem L8:∀(m:Nat) (l:List Nat),l.Nodup→(∀x∈l,x<m)→l.length≤m:=λm l hd h=>by
 have:=pn m (l.map λx:Nat=>(x:Int)) (by
  rw[MC,List.pairwise_map];exact(MC.1 hd).imp λ{a b} hab e=>hab (by omega)) (λx hx=>by
  obtain⟨y,hy,rfl⟩:=rP.1 hx;have:=h y hy;omega)
 simpa using this
theorem mO.HA{l:List Nd}{T:Tr}{us:List Bool}{fr:List Nat}{ks:List Key}{rm:Int}(h:mO l T us fr ks rm):T.cq.length+fr.length≤l.length:=by
 have:=L8 l.length (T.cq++fr) h.nd (λx hx=>by
  rcases eC.1 hx with hx|hx
  ·exact h.kf.lt x hx
  ·exact h.lt x hx)
 rwa[iE]at this
theorem mO.LL{l:List Nd}{T:Tr}{us:List Bool}{fr:List Nat}{ks:List Key}{rm:Int}(h:mO l T us fr ks rm):ks.length=T.cq.length:=by
 rw[←h.ino,Tr.B4]
theorem mO.small{l:List Nd}{T:Tr}{us:List Bool}{fr:List Nat}{ks:List Key}{rm:Int}(h:mO l T us fr ks rm):l.length≤4096∧tz T≤4096∧fr.length≤4096∧ks.length≤4096:=by
 have h1:=h.HA;have h2:=h.room;have h3:=h.rr;have h4:=G1 T;have h5:=h.LL;omega
abbrev St:=List Nd×Tr×List Bool×List Nat×Nat×Sl×Sl×Sl
def tree(rm:Int)(t:Nat)(ks:List Key):SP:=wZ (λx:St=>mO x.1 x.2.1 x.2.2.1 x.2.2.2.1 ks rm) (λx=>ah t [.ptr (some ⟨x.2.2.2.2.1,0⟩),.sl x.2.2.2.2.2.1,.int .i64 (x.2.1.rt+1),.int .i64 ks.length,.int .i64 rm]^aP x.2.2.2.2.2.1 KN x.1^ah x.2.2.2.2.1 [.sl x.2.2.2.2.2.2.1,.sl x.2.2.2.2.2.2.2,.int .i64 rm]^aP x.2.2.2.2.2.2.1 KB x.2.2.1^aP x.2.2.2.2.2.2.2 KI (x.2.2.2.1.map λx:Nat=>(x:Int)))
instance(rm:Int)(t:Nat)(ks:List Key):qq (tree rm t ks):=by unfold tree;infer_instance
section
variable {w0 w:World} {S0 R0:Nat→Prop} {F G:SP} {ks:List Key}
theorem _root_.Go.X.au.tree(h:au w0 S0 R0 w F)(rm:Int)(t:Nat)[tk:mR (iy.tree rm) t F ks G]:∃(l:List Nd) (T:Tr) (us:List Bool) (fr:List Nat) (a:Nat) (s s1 s2:Sl),mO l T us fr ks rm∧
  au w0 S0 R0 w (ah t [.ptr (some ⟨a,0⟩),.sl s,.int .i64 (T.rt+1),.int .i64 ks.length,.int .i64 rm]^aP s KN l^ah a [.sl s1,.sl s2,.int .i64 rm]^aP s1 KB us^aP s2 KI (fr.map λx:Nat=>(x:Int))^G):=by
 obtain⟨⟨l,T,us,fr,a,s,s1,s2⟩,hg,h⟩:=au.t_ (h.le tk.le);exact⟨l,T,us,fr,a,s,s1,s2,hg,h.aG⟩
theorem _root_.Go.X.au.pY{rm:Int}(h:au w0 S0 R0 w F)(t:Nat)(l:List Nd)(T:Tr)(us:List Bool)(fr:List Nat)(a:Nat)(s s1 s2:Sl)(hg:mO l T us fr ks rm)[tk:Take (ah t [.ptr (some ⟨a,0⟩),.sl s,.int .i64 (T.rt+1),.int .i64 ks.length,.int .i64 rm]^aP s KN l^ah a [.sl s1,.sl s2,.int .i64 rm]^aP s1 KB us^aP s2 KI (fr.map λx:Nat=>(x:Int))) F G]:
  au w0 S0 R0 w (iy.tree rm t ks^G):=
 au.qH (φ:=λx:St=>mO x.1 x.2.1 x.2.2.1 x.2.2.2.1 ks rm) (f:=λx=>ah t [.ptr (some ⟨x.2.2.2.2.1,0⟩),.sl x.2.2.2.2.2.1,.int .i64 (x.2.1.rt+1),.int .i64 ks.length,.int .i64 rm]^aP x.2.2.2.2.2.1 KN x.1^ah x.2.2.2.2.1 [.sl x.2.2.2.2.2.2.1,.sl x.2.2.2.2.2.2.2,.int .i64 rm]^aP x.2.2.2.2.2.2.1 KB x.2.2.1^aP x.2.2.2.2.2.2.2 KI (x.2.2.2.1.map λx:Nat=>(x:Int))) h (l,T,us,fr,a,s,s1,s2) hg
end
def room(n:Int):Int:=min (max n 0) 4096
theorem GM(n:Int):0≤room n∧room n≤4096:=by unfold room;omega
theorem VF(n:Int):mO [] .e [] [] [] (room n) where
 kf:=trivial
 oT:=trivial
 ino:=rfl
 wI:=List.Pairwise.nil
 lk:=λi hi=>by have:=hi.2;simp at this
 ul:=rfl
 nd:=by simp[Tr.cq]
 all:=λi hi=>by simp at hi
 lt:=λi hi=>by simp at hi
 on:=λi hi=>by simp[Tr.cq]at hi
 rr:=GM n
 room:=by have:=GM n;simp;omega
theorem jj(n:Int):bm (XL n) aT (λr=>ex λt:Nat=>bh (r=some ⟨t,0⟩) (tree (room n) t [])):=
 br λw0 S R h=>by
  have e:(if(4096:Int)<(if(0:Int)>n then(0:Int)else n)then(4096:Int)else(if(0:Int)>n then(0:Int)else n))=room n:=by unfold room;(repeat' split)<;>omega
  rw[e];refine af (Ji (room n)) h λr w h=>?_;obtain⟨a,h⟩:=h.lX;obtain⟨hr,h⟩:=h.aB;rw[hr];have e2:min (max (room n) 0) 4096=room n:=by have:=GM n;omega
  rw[e2]at h;refine aA h λt w h=>?_;have h:au w0 S R _ (aP ⟨none,0,0⟩ KI (([]:List Nat).map λx:Nat=>(x:Int))^_):=h.nil KI;have h:=(h.nil KB).nil KN;have h:=h.du (b:=t) (L':=[.ptr (some ⟨a,0⟩),.sl ⟨none,0,0⟩,.int .i64 (Tr.e.rt+1),.int .i64 (([]:List Key).length:Int),.int .i64 (room n)]) rfl;have h:au w0 S R _ (ah t [.ptr (some ⟨a,0⟩),.sl ⟨none,0,0⟩,.int .i64 (Tr.e.rt+1),.int .i64 (([]:List Key).length:Int),.int .i64 (room n)]^aP ⟨none,0,0⟩ KN []^ah a [.sl ⟨none,0,0⟩,.sl ⟨none,0,0⟩,.int .i64 (room n)]^aP ⟨none,0,0⟩ KB []^aP ⟨none,0,0⟩ KI (([]:List Nat).map λx:Nat=>(x:Int))):=h.aG;exact au.gX t (au.aE rfl (h.pY t [] .e [] [] a ⟨none,0,0⟩ ⟨none,0,0⟩ ⟨none,0,0⟩ (VF n)).bk)
theorem Ht{l:List Nd}{T:Tr}{us:List Bool}{fr:List Nat}{ks:List Key}{rm:Int}(hg:mO l T us fr ks rm)(k:Key):
  (k∉ks∧(∃c,find k T []=(.e,c)∧ks=lk c++rk c∧(∀m∈lk c,kX m k=true)∧∀m∈rk c,kX k m=true))∨
  (k∈ks∧∃L i R c,find k T []=(.n L i k R,c)∧fill (.n L i k R) c=T):=by
 have hs:z_ T.ino:=by rw[hg.ino];exact hg.wI
 obtain⟨g1,g2,g3⟩:=uJ k T [] hs (by simp[lk]) (by simp[rk]);have hf:=nq k T [];have hi:=hg.ino;generalize find k T []=p at*
 obtain⟨sub,c⟩:=p;dsimp only at g1 g2 g3 hf;have hf:fill sub c=T:=hf;rcases g3 with g3|⟨L,i,R,g3⟩
 ·left;subst g3;have eo:ks=lk c++rk c:=by rw[←hi,←hf,nK];simp[Tr.ino]
  refine⟨λhk=>?_,c,rfl,eo,g1,g2⟩;rw[eo,eC]at hk;rcases hk with hk|hk
  ·have:=g1 k hk;rw[sw]at this;cases this
  ·have:=g2 k hk;rw[sw]at this;cases this
 ·right;subst g3;refine⟨?_,L,i,R,c,rfl,hf⟩;rw[←hi,←hf,nK];simp[Tr.ino]
def dg:List je→Int
 |[]=>-1
 |.L i _ _::_=>i
 |.R _ _ _::c=>dg c
end iy

namespace kj
open _root_.Go.X.Tree xV AE iy
def ma(ks:List Key)(k:Key):List Key:=ks.takeWhile (λm=>kX m k)++k::ks.dropWhile (λm=>kX m k)
def LA(rm:Int)(ks:List Key)(k:Key):Int×List Key:=if k∈ks then(6,ks)else if(ks.length:Int)≥rm then(5,ks)else(0,ma ks k)
def FA(ks:List Key)(k:Key):Int×List Key:=if k∈ks then(0,ks.erase k)else(7,ks)
theorem Cb{a b:List Key}{k:Key}(h1:∀m∈a,kX m k=true)(h2:∀m∈b,kX k m=true):ma (a++b) k=a++k::b:=by
 unfold ma
 induction a with
 |nil=>
  cases b with
  |nil=>rfl
  |cons x b=>
   have hx:kX x k=false:=DU (h2 x (by simp));simp[hx]
 |cons x a ih=>
  have hx:kX x k=true:=h1 x (by simp);have:=ih λm hm=>h1 m (by simp[hm]);simp only[mY,zr,Gc,hx,gU]at this⊢;rw[this]
theorem I2{a b:List Key}{k:Key}(h:k∉a):(a++k::b).erase k=a++b:=by
 rw[List.erase_append_right _ h,List.erase_cons_head]
theorem QJ{l l':List Nd}{T:Tr}{B:Int}(h:g_ l' T)(hl:l'.length=l.length)(hB:(T.ino.length:Int)≤B)(hk:Lk l B)(hf:∀p,p∉T.cq→l'[p]?=l[p]?):Lk l' B:=by
 have sub:∀t:Tr,g_ l' t→(t.ino.length:Int)≤B→∀i∈t.cq,(Tree.lt l' (i:Int)=-1∨In l' (Tree.lt l' (i:Int)))∧(bG l' (i:Int)=-1∨In l' (bG l' (i:Int)))∧0≤hh l' (i:Int)∧hh l' (i:Int)≤B:=by
  intro t
  induction t with
  |e=>intro _ _ i hi;simp[Tr.cq]at hi
  |n L j k R ihL ihR=>
   intro ht hb i hi;simp only[Tr.ino,iE,kS]at hb;simp only[Tr.cq,eC,dO]at hi;have rin:∀t:Tr,g_ l' t→t.rt=-1∨In l' t.rt:=λt ht=>by
    cases t with
    |e=>exact .inl rfl
    |n L i k R=>exact .inr (nU ht).1
   rcases hi with hi|rfl|hi
   ·exact ihL ht.2.1 (by omega) i hi
   ·obtain⟨h1,h2⟩:=nU ht;have s1:=xC L;have s2:=xC R;have n1:=L.w5;simp only[Tree.lt,bG,hh,h2];exact⟨rin L ht.2.1,rin R ht.2.2,by omega,by omega⟩
   ·exact ihR ht.2.2 (by omega) i hi
 intro i hi;by_cases hm:i.toNat∈T.cq
 ·have:=sub T h hB i.toNat hm;have e:((i.toNat:Nat):Int)=i:=zc hi.1;rwa[e]at this
 ·have hi2:In l i:=hi.len hl.symm;have e:nth l' i=nth l i:=by
   have h1:=nO hi;have h2:=nO hi2;rw[hf _ hm,h2]at h1;exact(mD h1).symm
  have:=hk i hi2;simp only[Tree.lt,bG,hh,e];exact⟨this.1.imp id (·.len hl),this.2.1.imp id (·.len hl),this.2.2⟩
theorem CY{l:List Nd}:∀{c:List je} {hole:Int},Ah l hole c→∀x∈gz c,In l x
 |[],_,_,x,hx=>by simp[gz]at hx
 |.L i k r::c,hole,⟨⟨h0,h1⟩,_,h3⟩,x,hx=>by
  simp only[gz,kq,dO]at hx;rcases hx with rfl|hx
  ·exact⟨by simp[je.i],by simp only[je.i,eR];exact(gJ.1 h1).1⟩
  ·exact CY h3 x hx
 |.R q i k::c,hole,⟨⟨h0,h1⟩,_,h3⟩,x,hx=>by
  simp only[gz,kq,dO]at hx;rcases hx with rfl|hx
  ·exact⟨by simp[je.i],by simp only[je.i,eR];exact(gJ.1 h1).1⟩
  ·exact CY h3 x hx
theorem BV(c:List je)(t:Tr):c.length+tz t≤tz (fill t c):=by
 induction c generalizing t with
 |nil=>simp[fill]
 |cons f c ih=>
  have:=ih (f.put t);rw[fill];cases f<;>simp only[je.put,tz,kS]at*<;>omega
theorem Lx{l l1:List Nd}{T:Tr}{us us1:List Bool}{fr fr1:List Nat}{ks:List Key}{rm:Int}(hg:mO l T us fr ks rm){k:Key}{c:List je}{i:Nat}
  (hf:find k T []=(.e,c)) (hi:i∉T.cq) (h1:l1[i]?=some (k.1,k.2,-1,-1,1)) (hr:∀j∈T.cq,l1[j]?=l[j]?) (hlk:Lk l1 5000) (hul:us1.length=l1.length)
  (hnd:(T.cq++fr).Nodup→(i::T.cq++fr1).Nodup) (hall:∀j,j<l1.length→j=i∨j∈T.cq∨j∈fr1) (hlt:∀j∈fr1,j<l1.length) (hon:∀j,j=i∨j∈T.cq→us1[j]?=some true) (hroom:(l1.length:Int)≤rm):
  ∃T',(ia l1 (-1) i (gz c)).2=T'.rt∧mO (ia l1 (-1) i (gz c)).1 T' us1 fr1 (ma ks k) rm:=by
 have hs:z_ T.ino:=by rw[hg.ino];exact hg.wI
 have hnd0:=hg.nd;have hdT:T.cq.Nodup:=(jE.1 hnd0).1;obtain⟨T',mv,eo,ei,g1,g2⟩:=Pu hg.kf hf hg.oT hdT hs hi h1 hr;have eks:ks=lk c++rk c:=by rw[←hg.ino,eo]
 have ep:ma ks k=lk c++k::rk c:=by rw[eks];exact Cb g1 g2
 have hino:T'.ino=ma ks k:=by rw[mv.ino,ep];simp[Tr.ino]
 have hids:T'.cq=lc c++i::rc c:=by rw[mv.cq];simp[Tr.cq]
 have hlen:=AS (gz c) l1 (-1) i;have hmem:∀j,j∈T'.cq↔j=i∨j∈T.cq:=λj=>by
  rw[hids,ei];simp only[eC,dO];exact⟨λh=>h.elim (λh=>.inr (.inl h)) λh=>h.elim .inl λh=>.inr (.inr h),λh=>h.elim (λh=>.inr (.inl h)) λh=>h.elim .inl λh=>.inr (.inr h)⟩
 have hp:(i::T.cq++fr1).Perm (T'.cq++fr1):=by
  rw[hids,ei];refine List.Perm.append_right _ ?_;exact List.perm_middle.symm
 refine⟨T',mv.root,⟨mv.kf,mv.oT,hino,?_,?_,by rw[hul,hlen],?_,λj hj=>?_,λj hj=>by rw[hlen];exact hlt j hj,λj hj=>hon j ((hmem j).1 hj),hg.rr,by rw[hlen];exact hroom⟩⟩
 ·rw[ep];have:=hg.wI;rw[eks]at this;exact this.put g1 g2
 ·have hsz:(T'.ino.length:Int)≤5000:=by
   rw[hino,ep];have:=hg.small.2.2.2;rw[eks]at this;simp at this⊢;omega
  exact QJ mv.kf hlen hsz hlk λp hp=>mv.fr p (by rw[←mv.cq];exact hp)
 ·exact hp.nodup_iff.1 (hnd hnd0)
 ·rw[hlen]at hj;rcases hall j hj with h|h|h
  ·exact .inl ((hmem j).2 (.inl h))
  ·exact .inl ((hmem j).2 (.inr h))
  ·exact .inr h
theorem FL(t:Nat)(rm:Int)(ks:List Key)(k:Key):bm (RB (some ⟨t,0⟩) k) (tree rm t ks) (λr=>bh (r=(LA rm ks k).1) (tree rm t (LA rm ks k).2)):=
  br λw0 S R h=>by
    obtain⟨l,T,us,fr,a,s,s1,s2,hg,h⟩:=h.tree rm t;obtain⟨b1,b2,b3,b4⟩:=hg.small;have hs:z_ T.ino:=by rw[hg.ino];exact hg.wI
    refine aA h λn1 w h=>ae (λc=>(by cases c)) λ_=>ar (x:=k) h rfl ?_;refine af (Ia t (some ⟨a,0⟩) s ks.length rm l T hg.kf b1 b2 k) h λq w h=>?_;refine ar (x:=k) h rfl ?_;refine af (AN t (some ⟨a,0⟩) s ks.length rm l T hg.kf hs b2 k q (T.rt+1)) h λr w h=>?_;obtain⟨hr,h⟩:=h.aB;rw[hr];unfold LA;rcases Ht hg k with⟨hk,c,hf,eks,g1,g2⟩|⟨hk,L,i,Rr,c,hf,_⟩
    · rw[ay hk]
      rw[hf]at h⊢;refine ae (λc=>(by simp[Tr.rt]at c)) λ_=>?_;refine aH h λw h=>ac (ac (aj h rfl (aj h rfl ?_)));refine ae (λc1=>?_) λc1=>?_
      · rw[aC (bJ c1)]
        exact au.aE rfl (h.pY t l T us fr a s s1 s2 hg).bk
      have c1:¬(ks.length:Int)≥rm:=bQ c1;rw[ay c1];refine ac (aj h rfl ?_);have hep:gT ((.e,c):Tr×List je)=(gz c).reverse:=(by simp[gT,rX]);have hfill:=nq k T [];rw[hf]at hfill;have hfill:fill .e c=T:=hfill;have hcl:c.length≤4096:=(by have:=BV c .e;rw[hfill]at this;omega);have hwc:∀l1:List Nd,l1.length≥l.length→∀x∈gz c,In l1 x:=λl1 hl x hx=>by
        have hR:g_ l (fill .e c):=(by rw[hfill];exact hg.kf);have:=CY (jH hR).2 x hx;exact⟨this.1,Gh this.2 hl⟩
      have aG:∀(w:World) (l1:List Nd) (us1:List Bool) (fr1:List Nat) (i:Nat) (s s1 s2:Sl) (j:Nd),
          i∉T.cq→l1[i]? =some j→(∀p∈T.cq,p<l.length→l1[p]? =l[p]?)→Lk (l1.set i (k.1,k.2,-1,-1,1)) 5000→us1.length=l1.length→l1.length≥l.length→l1.length≤4096→
          ((T.cq++fr).Nodup→(i::T.cq++fr1).Nodup)→(∀j,j<l1.length→j=i∨j∈T.cq∨j∈fr1)→(∀j∈fr1,j<l1.length)→(∀j,j=i∨j∈T.cq→us1[j]? =some true)→((l1.length:Int)≤rm)→
          au w0 S R w (ah t [.ptr (some ⟨a,0⟩),.sl s,.int .i64 (T.rt+1),.int .i64 ks.length,.int .i64 rm]^aP s KN l1^ah a [.sl s1,.sl s2,.int .i64 rm]^aP s1 KB us1^aP s2 KI (fr1.map λx:Nat=>(x:Int))^aP q KI (gz c).reverse^ah n1 (Ks.mk [.int .u64,.int .u64] k)^aT)→
          (bF<|
  ld [.int .u64,.int .u64] ⟨n1,0⟩ λ(x22:Int×Int)=>
  deref (some ⟨t,0⟩) λq23=>
  ld [.sl] ⟨q23.b,q23.o+1⟩ λ(x24:Sl)=>
  idx x24 (i:Int) 5 λq25=>
  st q25 [.int .u64 x22.1,.int .u64 x22.2,.int .i64 (-1:Int),.int .i64 (-1:Int),.int .i64 (1:Int)]<|
  deref (some ⟨t,0⟩) λq26=>
  ld [.int .i64] ⟨q26.b,q26.o+3⟩ λ(x27:Int)=>
  deref (some ⟨t,0⟩) λq28=>
  st ⟨q28.b,q28.o+3⟩ [.int .i64 (IntKind.i64.wrap (x27+(1:Int)))]<|
  call Tryz.prog tF [.lf (.ptr (some ⟨t,0⟩)),.lf (.sl q),.lf (.int .i64 (-1:Int)),.lf (.int .i64 (i:Int))] [] λ(r29:Unit)=>
  λw=>au w0 S R w (bh ((0:Int)=0) (tree rm t (ma ks k)))) w:=by
        intro w l1 us1 fr1 i s s1 s2 j hi hj hr hlk hul hge h4096 hnd hall hlt hon hroom h;refine aH h λw h=>ar (x:=k) h rfl (ac (aj h rfl ?_));have hin:In l1 (i:Int):=⟨by omega,by rw[eR];exact(gJ.1 hj).1⟩;refine im (s:=s) h hin ?_;refine lT h s i 0 j (k.1,k.2,-1,-1,1) hj (by rw[eR];rfl) (by simp) (by simp) rfl λw h=>?_;refine ac (aj h rfl (ac (aU h rfl λw h=>?_)));dsimp only[dj,over]at h;have ew:IntKind.i64.wrap ((ks.length:Int)+1)=((ma ks k).length:Int):=by
          rw[wi (by omega) (by omega),eks,Cb g1 g2];simp;omega
        rw[ew]at h;have hl1:(l1.set i (k.1,k.2,-1,-1,1)).length=l1.length:=qB;have hin1:In (l1.set i (k.1,k.2,-1,-1,1)) (i:Int):=hin.len hl1;have h:=h.eB (s:=s) (K:=KN) (ys:=l1.set i (k.1,k.2,-1,-1,1)) rfl;refine bI (A:=ah t [.ptr (some ⟨a,0⟩),.sl s,.int .i64 (T.rt+1),.int .i64 (ma ks k).length,.int .i64 rm]^aP s KN (l1.set i (k.1,k.2,-1,-1,1))) (Q:=ba q KI (gz c).reverse) (Lz t (some ⟨a,0⟩) s (T.rt+1) (ma ks k).length rm (l1.set i (k.1,k.2,-1,-1,1)) q (gz c).reverse (-1) i (λx hx=>hwc _ (by rw[hl1];exact hge) x (List.mem_reverse.1 hx)) hin1 5000 hlk (by omega) (by simp[gz];omega) (by rw[hl1];omega)) h λ_ w h=>?_;rw[List.reverse_reverse]at h;obtain⟨T',hroot,hgood⟩:=Lx (l1:=l1.set i (k.1,k.2,-1,-1,1)) (us1:=us1) (fr1:=fr1) hg hf hi (by rw[rJ (gJ.1 hj).1]) (λp hp=>by
          rw[xd (show i≠p from λe=>hi (e▸hp))];exact hr p hp (hg.kf.lt p hp)) hlk (by rw[hl1];exact hul) hnd (by rw[hl1];exact hall) (by rw[hl1];exact hlt) hon (by rw[hl1];exact hroom)
        rw[hroot]at h;exact au.aE rfl (h.pY t _ T' us1 fr1 a s s1 s2 hgood).bk
      have hidl:=hg.HA;have hkl:=hg.LL;have hrr:=hg.rr;rw[hep]at h;by_cases hfr:fr=[]
      ·
        have hlen:T.cq.length=l.length:=by
          have h2:l.length≤T.cq.length:=by
            have:(List.range l.length).length≤T.cq.length:=by
              refine List.Nodup.length_le_of_subset List.nodup_range λx hx=>?_;rcases hg.all x (List.mem_range.1 hx)with h|h
              · exact h
              · rw[hfr]at h;cases h
            simpa using this
          omega
        have hus:=hg.ul;rw[hfr]at h;have h:=h.eB (s:=s2) (K:=KI) (ys:=[]) rfl;refine af (Pn a s1 s2 us rm (by omega) hg.rr.2) h λr w h=>?_;obtain⟨s1',h⟩:=h.lX;obtain⟨hr,h⟩:=h.aB;rw[hr];refine ae (λc=>(by simp at c)) λ_=>?_;have h:au w0 S R w (aP s KN l^ah t [.ptr (some ⟨a,0⟩),.sl s,.int .i64 (T.rt+1),.int .i64 ks.length,.int .i64 rm]^ah a [.sl s1',.sl s2,.int .i64 rm]^aP s1' KB (us++[true])^aP s2 KI []^aP q KI (gz c).reverse^ah n1 (Ks.mk [.int .u64,.int .u64] k)^aT):=h.aG;have hsl:=(h.rd (s:=s)).2;refine⟨_,λ_ _ h=>h,?_⟩;dsimp only;refine ac (aj h rfl (ae (λ_=>?_) λc=>?_))
        · refine ac (aj h rfl (aA h λn w h=>?_))
          have h:=h.cT n KN [((0,0,0,0,0):Nd)] rfl (by simp);refine dE (s:=s) (x:=⟨some ⟨n,0⟩,1,1⟩) h rfl (by simp;omega) λs' w hs' h=>?_;refine ac (aU h rfl λw h=>?_);dsimp only[dj,over]at h;have eu:(us.length:Int)=((l.length:Nat):Int):=(by rw[hus]);rw[eu];have h:=h.eB (s:=s2) (K:=KI) (ys:=(([]:List Nat).map λx:Nat=>(x:Int))) rfl;have hlk1:Lk ((l++[((0,0,0,0,0):Nd)]).set l.length (k.1,k.2,-1,-1,1)) 5000:=by
            have e:(l++[((0,0,0,0,0):Nd)]).set l.length (k.1,k.2,-1,-1,1)=l++[(k.1,k.2,-1,-1,1)]:=(by simp);rw[e];intro i hi;by_cases hil:i.toNat<l.length
            · have e2:nth (l++[((k.1,k.2,-1,-1,1):Nd)]) i=nth l i:=by simp[nth,Bc,oB hil]
              have hi2:In l i:=⟨hi.1,hil⟩;have:=hg.lk i hi2;have up:∀j,In l j→In (l++[((k.1,k.2,-1,-1,1):Nd)]) j:=λj hj=>⟨hj.1,by have:=hj.2;simp;omega⟩;simp only[Tree.lt,bG,hh,e2];exact⟨this.1.imp id (up _),this.2.1.imp id (up _),this.2.2⟩
            · have e3:i.toNat=l.length:=by have:=hi.2;simp at this;omega
              have e2:nth (l++[((k.1,k.2,-1,-1,1):Nd)]) i=(k.1,k.2,-1,-1,1):=(by simp[nth,Bc,e3]);simp only[Tree.lt,bG,hh,e2];exact⟨.inl trivial,.inl trivial,by decide,by decide⟩
          refine aG w (l++[(0,0,0,0,0)]) (us++[true]) [] l.length s' s1' s2 (0,0,0,0,0) (λhx=>by have:=hg.kf.lt _ hx;omega) (by simp) (λp hp hpl=>by rw[oB hpl]) hlk1 (by simp[hus]) (by simp) (by simp;omega) (λhn=>?_) (λj hj=>?_) (λj hj=>(by cases hj)) (λj hj=>?_) (by simp;omega) h.aG
          · rw[hfr,rM]at hn
            rw[rM,kU];exact⟨λhx=>by have:=hg.kf.lt _ hx;omega,hn⟩
          · simp at hj
            by_cases hjl:j=l.length
            · exact .inl hjl
            · rcases hg.all j (by omega)with h|h
              · exact .inr (.inl h)
              · rw[hfr]at h;cases h
          · rcases hj with rfl|hj
            · simp[←hus]
            · have:=hg.kf.lt _ hj
              rw[oB (by omega)];exact hg.on j hj
        · have c:((us.length:Int)==((s.len:Nat):Int))=false:=c
          rw[Gf]at c;exact absurd (by rw[hsl,hus]) c
      ·
        obtain⟨f,i,hfi⟩:∃f i,fr=f++[i]:=⟨fr.dropLast,fr.getLast hfr,(MA hfr).symm⟩;have hus:=hg.ul;have hil:=hg.lt i (by rw[hfi];simp);have hnd:=hg.nd;have hi:i∉T.cq:=λhx=>by
          rw[jE]at hnd;exact hnd.2.2 i hx i (by rw[hfi];simp) rfl
        refine af (Po a s1 s2 us (fr.map λx:Nat=>(x:Int)) rm (i:Int) (f.map λx:Nat=>(x:Int)) (by rw[hfi];simp) ⟨by omega,by rw[eR];omega⟩ (by rw[kT];omega)) h λr w h=>?_;obtain⟨s2',h⟩:=h.lX;obtain⟨hr,h⟩:=h.aB;rw[hr];refine ae (λc=>(by simp at c)) λ_=>?_;rw[eR]at h;have h:au w0 S R w (aP s KN l^ah t [.ptr (some ⟨a,0⟩),.sl s,.int .i64 (T.rt+1),.int .i64 ks.length,.int .i64 rm]^ah a [.sl s1,.sl s2',.int .i64 rm]^aP s1 KB (us.set i true)^aP s2' KI (f.map λx:Nat=>(x:Int))^aP q KI (gz c).reverse^ah n1 (Ks.mk [.int .u64,.int .u64] k)^aT):=h.aG;have hsl:=(h.rd (s:=s)).2;refine⟨_,λ_ _ h=>h,?_⟩;dsimp only;refine ac (aj h rfl (ae (λc=>?_) λ_=>?_))
        · have c:(i:Int)=((s.len:Nat):Int):=bV
          omega
        · have hlk1:Lk (l.set i (k.1,k.2,-1,-1,1)) 5000:=by
            have:=hg.lk.set (C:=5000) (ku _) (i:=(i:Int)) ⟨by omega,by rw[eR];exact hil⟩ (x:=(k.1,k.2,-1,-1,1)) (.inl rfl) (.inl rfl) ⟨by show(0:Int)≤1;omega,by show(1:Int)≤5000;omega⟩;rwa[eR]at this
          refine aG w l (us.set i true) f i s s1 s2' l[i] hi (jG hil) (λp hp hpl=>rfl) hlk1 (by simp[hus]) (fa _) b1 (λhn=>?_) (λj hj=>?_) (λj hj=>hg.lt j (by rw[hfi];simp[hj])) (λj hj=>?_) hg.room h.aG
          · rw[hfi]at hn
            have hp:(T.cq++(f++[i])).Perm (i::T.cq++f):=by
              rw[←kR];exact(MS).trans (by simp)
            exact hp.nodup_iff.1 hn
          · rcases hg.all j hj with h|h
            · exact .inr (.inl h)
            · rw[hfi,eC,jY]at h
              rcases h with h|h
              · exact .inr (.inr h)
              · exact .inl h
          · rcases hj with rfl|hj
            · rw[rJ (by omega)]
            · rw[xd (show i≠j from λe=>hi (e▸hj))]
              exact hg.on j hj
    · rw[aC hk]
      rw[hf];refine ae (λ_=>?_) λc=>(by have c:((i:Int)!= -1)=false:=c;simp at c);exact au.aE rfl (h.pY t l T us fr a s s1 s2 hg).bk
end kj

end Go.X
