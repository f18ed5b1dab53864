/- Contracts and plain facts: MqY MqZ MqZa FqT EgI EgJ EgK EgL MqM MqN. -/
import Derived.Test.YtaimlgfepkopkaaGreatB12
set_option linter.all false
namespace Go.X
open Go.Proofs
namespace Qu
open bB bi ff EW _root_.Go.X.Tree iy kj lp fg lK lV C7 wP wR ET EU JY JS NW Qq E4 NM
theorem vn(s:Sl)(rates:List Int)(i:Nat):bm (RX s (i:Int)) (aT^ba s KU rates) (λx=>bh (x=gM rates i) aT):=
 br λw0 S R h=>by
  have h:au w0 S R w0 (ba s KU rates^aT):=h.aG;have hs:=(h.rd (s:=s)).2;refine ae (λc=>?_) λc=>?_
  ·have c:(i:Int)<((s.len:Nat):Int):=bV;obtain⟨x,hx⟩:∃x,rates[i]?=some x:=⟨_,jG (by omega)⟩;refine bR (s:=s) h (by omega) (by omega) (dW h s i hx (by rw[eR];rfl) ?_);refine au.aE ?_ h.fV;show x=gM rates i;unfold gM;rw[hx]
  ·have c:¬(i:Int)<((s.len:Nat):Int):=bV;refine au.aE ?_ h.fV;show(18446744073709551615:Int)=gM rates i;unfold gM;rw[vc (by omega)]
theorem Bo{u u':Qm}{r:Nat→RF}{t:Nat→Bool}(h:Rq u r t){i:Nat}{f f':Fl}(hf:u.fl i=some f)(hf':u'.fl i=some f')(hfl:∀j,j≠i→u'.fl j=u.fl j)(hpl:∀j,j≠i→eM u' j=eM u j)(x:RF)(hx:x=((i:Int),f'.cr,eM u' i,f'.nx,f'.si,lb x)):Rq u' (fQ r i x) t:=⟨λq hq8=>by
  by_cases e:q=i
  ·rw[e,hf'];rw[e]at hq8;rw[h.t i hq8,hf];rfl
  ·rw[hfl q e];exact h.t q hq8,λq hq8=>by
  by_cases e:q=i
  ·rw[e,cO];unfold xv;rw[hf'];exact hx
  ·rw[fE _ _ e];have:=h.r q hq8;unfold xv at this⊢;rw[hfl q e,hpl q e];exact this⟩
theorem F2(lv:LV){i j:Int}(h:j≠i):bH (lv.1,lv.2++[i]) j=bH lv j:=by
 unfold bH;simp[h]
theorem pu{lv:LV}(hh:(bM lv).2.2=true){i:Int}(hi:(bM lv).1=i):pZ lv i 2=(eO lv).2:=by
 unfold pZ eO;rw[aC rfl,aC hh,hi]
theorem pw{lv:LV}(hh:(bM lv).2.2=true){i:Int}(hi:(bM lv).1=i){p:Int}(hp:p≠2):pZ lv i p=(cd lv).2:=by
 unfold pZ cd;rw[ay hp,aC hh,hi]
theorem ua(lv:LV)(i:Int):bH (pZ lv i 2) i=2:=by
 unfold pZ bH dm;rw[aC rfl];simp
theorem yX(lv:LV)(i:Int){p:Int}(hp:p≠2):bH (pZ lv i p) i=0:=by
 unfold pZ;rw[ay hp];exact lD.2 (v_ lv i)
theorem nQ(lv:LV){i j:Int}(p:Int)(h:j≠i):bH (pZ lv i p) j=bH lv j:=by
 unfold pZ;split
 ·rw[show((dm lv i).1,(dm lv i).2++[i])=((dm lv i).1,(dm lv i).2++[i])from rfl,F2 (dm lv i) h,wc lv h]
 ·exact wc lv h
theorem Nm(r:Nat→RF)(i:Nat)(p:Int)(xs:Nat→List Sg):dV (qQ (fQ r i (wb (r i) p)) xs) 8=dV (qQ r xs) 8:=gQ 8 λq _=>by
 show aP (lb (fQ r i (wb (r i) p) q)) KS (xs q)=aP (lb (r q)) KS (xs q);by_cases e:q=i
 ·rw[e,cO]
 ·rw[fE _ _ e]
abbrev mM(u:Qm)(k:Key)(l:List Key):Qm:={u with ks:=l,lv:=(u.lv.1,u.lv.2++[k.2])}
theorem Lc{u:Qm}{k:Key}{l:List Key}(hk:u.ks=k::l){ao:Int}(h:k.1≤ao):oN (mM u k l) ao=oN u ao:=by
 show(⟨u.c,u.fl,(u.lv.1,(u.lv.2++[k.2])++(l.takeWhile λk=>decide (k.1≤ao)).map Prod.snd),l.dropWhile λk=>decide (k.1≤ao),u.n⟩:Qm)=⟨u.c,u.fl,(u.lv.1,u.lv.2++(u.ks.takeWhile λk=>decide (k.1≤ao)).map Prod.snd),u.ks.dropWhile λk=>decide (k.1≤ao),u.n⟩;rw[hk,zr,Gc,aC WR,aC WR];simp
theorem Pf{u:Qm}(hu:iQ u){k:Key}{l:List Key}(hk:u.ks=k::l):iQ (mM u k l):=by
 obtain⟨i,f,hf,hs,hni,he⟩:=(hu.ks k).1 (by rw[hk];simp);have hi8:=(hu.fl i f hf).1;have hp:=PS (v:=u.lv) hi8 hni;have hk2:k.2=(i:Int):=by rw[he]
 have hokl:vH (u.lv.1,u.lv.2++[(i:Int)]):=by
  have:=hu.lv.push (i:Int) false;rwa[hp]at this
 have hsr:=hu.wI;rw[hk]at hsr;have hnd:=hu.wI.nodup;rw[hk]at hnd;have hin:∀j:Nat,ng (u.lv.1,u.lv.2++[(i:Int)]) j↔ng u.lv j∨j=i:=λj=>by
  unfold ng;rw[←kR,eC,jY];exact⟨λh=>h.imp id (λe=>by omega),λh=>h.imp id (λe=>by omega)⟩
 have e:jT u.fl i (u.fl i)=u.fl:=G4 rfl;have:=hu.dj hi8 (u.fl i) (u.lv.1,u.lv.2++[(i:Int)]) l u.n hokl (λj hj=>by rw[hin];exact⟨λh=>h.elim id λe=>absurd e hj,.inl⟩) (λ_=>⟨f,hf⟩) (λg hg=>(hu.fl i g hg).2) (λq=>?_) (tq.1 hsr).2 (by omega) hu.le
 ·rw[e]at this;unfold mM;rw[hk2];exact this
 ·constructor
  ·intro hq;left;refine⟨by rw[hk];exact nS _ hq,λe2=>?_⟩;have hqm:q∈u.ks:=by rw[hk];exact nS _ hq
   have:=key_inj hu hqm (b:=k) (by rw[hk];simp) (by rw[e2,hk2]);rw[this]at hq;exact(kU.1 hnd).1 hq
  ·rintro(⟨hq,hne⟩|⟨g,hg,_,hn,_⟩)
   ·rw[hk]at hq;rcases dO.1 hq with rfl|hq
    ·exact absurd hk2 hne
    ·exact hq
   ·exact absurd ((hin i).2 (.inr rfl)) hn
theorem Ew(b:Nat)(X:Cx)(v:Qm)(hv:iQ v)(ao:Int)(hn:U ao)(s:Sl)(rates:List Int)(hr:∀x∈rates,U x):bm (WE (some ⟨b,1⟩) ao s)
  (bP b X v^ba s KU rates) (λx=>bh (x=At (jw v ao rates).1) (bP b X (jw v ao rates).2)):=
 br λw0 S R h=>by
  refine aA h λn1 w h=>?_;have h:au w0 S R w (ah n1 zS^ba s KU rates^bP b X v):=h.aG;refine aK h (λ_=>ah n1 zS^ba s KU rates^bP b X (oN v ao)) (λ_=>True) (λ_ w _ h=>?_) ?_
  ·refine gn (λ(_:Unit) (u:Qm)=>ah n1 zS^ba s KU rates^bP b X u) (λ_ u=>iQ u∧∃k,mu u<k∧lA ao rates k u=jw v ao rates) (λ_ u=>mu u) (oN v ao) h ⟨hv.due ao,_,zh _,rfl⟩ ?_;rintro K (y:Unit) u w ⟨hu,k,hk,hR⟩ h next
   have hl:=hu.lv.FE;cases k with
   |zero=>omega
   |succ k=>
   obtain⟨r,t,hq,h⟩:=h.bP b X u;refine ac (af (FW b X (dN X u.c r t) (1+65) rfl u.lv) h λx w h=>?_);obtain⟨hx,h⟩:=h.aB;rw[hx];cases hh:(bM u.lv).2.2 with
   |false=>
    rw[yy hh]at hR;refine ae (λ_=>?_) λc=>(by simp at c);refine aw h (by rfl) λw h=>ar (b:=n1) (x:=PH) h rfl ?_;rw[←hR];exact au.aE rfl (h.fe b X u r t hq).aG
   |true=>
    refine ae (λc=>(by simp at c)) λ_=>?_;have hm:=kO hh;have hxr:=hu.lv.2 _ hm;obtain⟨i,hi⟩:∃i:Nat,(bM u.lv).1=(i:Int):=⟨(bM u.lv).1.toNat,by omega⟩;obtain⟨f,hf⟩:=hu.th i (by rw[hi]at hm;exact hm);have hA:xw u i f:=⟨hu,hi,hh,hf⟩;have hi8:=hA.lt;have hF:=(hu.fl i f hf).2;have hcr:=hF.cr;have hqq:=hu.cf.q;rw[yx hA]at hR;obtain⟨q1,q2,q3⟩:=hq.some hi8 hf;have hit:((i:Nat):Int).toNat=i:=eR i;rw[hi];refine ac ⟨by omega,?_⟩;rw[hit];obtain⟨s1,s2,h⟩:=h.jq b X (dN X u.c r t) u.lv;have hb:∀o m:Nat,o+m≤140→Nat.ble (o+m) 140=true:=λo m h=>iD h;refine ac (aj h (CI X u.c r t s1 s2 hi8) ?_);have e1:(r i).2.1=f.cr:=by rw[q2]
    rw[e1];refine ae (λc=>?_) λc=>?_
    ·have c:f.cr≤0:=bV;rw[aC c]at hR;have hcw:IntKind.i64.wrap (f.cr+cQ u.c)=f.cr+cQ u.c:=wi (by omega) (by omega);refine aH h λw h=>ac (ac (aj h (CI X u.c r t s1 s2 hi8) (aj h rfl (ac ?_))));rw[e1];rw[show IntKind.i64.wrap (f.cr+cQ u.c)=f.cr+cQ u.c from hcw];refine az h b (dN X u.c (fQ r i ((r i).1,f.cr+cQ u.c,(r i).2.2.1,(r i).2.2.2.1,(r i).2.2.2.2.1,(r i).2.2.2.2.2)) t++.sl s1:: .sl s2::lN X) rfl (iD (by show 1+9+i*6+1+1≤140;omega)) (GQ X u.c r t s1 s2 hi8 _) λw h=>?_;obtain⟨r',hr'⟩:∃r',r'=fQ r i ((r i).1,f.cr+cQ u.c,(r i).2.2.1,(r i).2.2.2.1,(r i).2.2.2.2.1,(r i).2.2.2.2.2):=⟨_,rfl⟩;rw[←hr']at h;have h:=h.dv b X (dN X u.c r' t) s1 s2 u.lv;refine af (vb b X u.c r' t u.lv hu.lv i hi8 2 (by decide)) h λ_ w h=>?_;have hri:r' i=((r i).1,f.cr+cQ u.c,(r i).2.2.1,(r i).2.2.2.1,(r i).2.2.2.2.1,(r i).2.2.2.2.2):=(by rw[hr',cO]);have hup:fQ r' i (wb (r' i) 2)=fQ r i ((i:Int),f.cr+cQ u.c,2,f.nx,f.si,lb (r i)):=by
      funext q
      by_cases e:q=i
      ·rw[e,cO,cO,hri];show((r i).1,f.cr+cQ u.c,2,(r i).2.2.2.1,(r i).2.2.2.2.1,(r i).2.2.2.2.2)=_;rw[q2]
      ·rw[fE _ _ e,fE _ _ e,hr',fE _ _ e]
     rw[hup,pu hh hi]at h;have hpi:eM {u with fl:=jT u.fl i (some {f with cr:=f.cr+cQ u.c}),lv:=(eO u.lv).2} i=2:=by
      unfold eM;rw[←pu hh hi,ua];rfl
     have hq2:=Bo (u':={u with fl:=jT u.fl i (some {f with cr:=f.cr+cQ u.c}),lv:=(eO u.lv).2}) hq hf (cg _ _ _) (λj e=>dX _ _ e) (λj e=>jR (dX _ _ e) (by rw[←pu hh hi];exact nQ u.lv 2 (by omega))) ((i:Int),f.cr+cQ u.c,2,f.nx,f.si,lb (r i)) (by rw[hpi]);have hs2:fw {u with fl:=jT u.fl i (some {f with cr:=f.cr+cQ u.c}),lv:=(eO u.lv).2} i=f.sg:=by
      unfold fw;rw[show({u with fl:=jT u.fl i (some {f with cr:=f.cr+cQ u.c}),lv:=(eO u.lv).2}:Qm).fl i=_ from cg _ _ _]
     have h:=h.EY r (fw u) hi8;rw[q3]at h;have h:=h.HZ r (fQ r i ((i:Int),f.cr+cQ u.c,2,f.nx,f.si,lb (r i))) (fw u) (fw {u with fl:=jT u.fl i (some {f with cr:=f.cr+cQ u.c}),lv:=(eO u.lv).2}) hi8 (λj e=>fE _ _ e) (λj e=>wG u i _ _ _ _ e) (tk:=by rw[hs2,cO];infer_instance);have hmu:=uB hA c;exact next () {u with fl:=jT u.fl i (some {f with cr:=f.cr+cQ u.c}),lv:=(eO u.lv).2} w ⟨hA.Fy c,k,by omega,hR⟩ (h.fe b X {u with fl:=jT u.fl i (some {f with cr:=f.cr+cQ u.c}),lv:=(eO u.lv).2} _ t hq2).aG hmu
    have c:¬f.cr≤0:=bV;rw[ay c]at hR;have hsl:(lb (r i)).len=f.sg.length:=by
     have h:=h.EY r (fw u) hi8;have:=(h.rd (s:=lb (r i))).2;rw[q3]at this;exact this
    refine aK h (λ_=>ah n1 zS^ba s KU rates^jq b X (dN X u.c r t) u.lv^dV (qQ r (fw u)) 8) (λy:Bool=>y=true↔f.sg=[]∧((bM u.lv).2.1=true∧u.lv.2≠[])) (λ(y:Bool) w hy h=>?_) ?_
    ·refine ae (λc2=>?_) λc2=>?_
     ·obtain⟨e3,e4⟩:=hy.1 c2;rw[e3]at hR;simp only at hR;rw[aC e4]at hR;refine af (vb b X u.c r t u.lv hu.lv i hi8 2 (by decide)) h λ_ w h=>?_;rw[pu hh hi]at h;have hpi:eM {u with lv:=(eO u.lv).2} i=2:=by
       unfold eM;rw[←pu hh hi,ua];rfl
      have hq2:=Bo (u':={u with lv:=(eO u.lv).2}) hq hf hf (λ_ _=>rfl) (λj e=>jR rfl (by rw[←pu hh hi];exact nQ u.lv 2 (by omega))) (wb (r i) 2) (by rw[hpi];show((r i).1,(r i).2.1,2,(r i).2.2.2.1,(r i).2.2.2.2.1,lb (r i))=_;rw[q2]);rw[←Nm r i 2 (fw u),show fw u=fw {u with lv:=(eO u.lv).2}from rfl]at h;have hmu:=x6 hA e4.1;exact next () {u with lv:=(eO u.lv).2} w ⟨hA.back,k,by omega,hR⟩ (h.fe b X {u with lv:=(eO u.lv).2} (fQ r i (wb (r i) 2)) t hq2).aG hmu
     have c2:¬(f.sg=[]∧((bM u.lv).2.1=true∧u.lv.2≠[])):=λx=>by have:=hy.2 x;rw[c2]at this;cases this
     obtain⟨s1,s2,h⟩:=h.jq b X (dN X u.c r t) u.lv;refine ac (aj h (rS X u.c r t s1 s2 hi8) ?_);refine ae (λc3=>?_) λc3=>?_
     ·have c3:(lb (r i)).len=0:=by
       have c3:(((lb (r i)).len:Nat):Int)=0:=(by simpa using c3);omega
      have e3:f.sg=[]:=jD (by omega);rw[e3]at hR;simp only at hR;rw[ay (λx=>c2 ⟨e3,x⟩)]at hR;have h:=h.dv b X (dN X u.c r t) s1 s2 u.lv;refine af (vb b X u.c r t u.lv hu.lv i hi8 0 (by decide)) h λ_ w h=>?_;rw[pw hh hi (by decide)]at h;obtain⟨s1,s2,h⟩:=h.jq b X (dN X u.c (fQ r i (wb (r i) 0)) t) (cd u.lv).2;refine ac (az h b (dN X u.c (fQ (fQ r i (wb (r i) 0)) i ((fQ r i (wb (r i) 0) i).1,(fQ r i (wb (r i) 0) i).2.1,(fQ r i (wb (r i) 0) i).2.2.1,(fQ r i (wb (r i) 0) i).2.2.2.1,ao,(fQ r i (wb (r i) 0) i).2.2.2.2.2)) t++.sl s1:: .sl s2::lN X) rfl (iD (by show 1+9+i*6+4+1≤140;omega)) (M_ X u.c _ t s1 s2 hi8 ao) λw h=>?_);have hup:fQ (fQ r i (wb (r i) 0)) i ((fQ r i (wb (r i) 0) i).1,(fQ r i (wb (r i) 0) i).2.1,(fQ r i (wb (r i) 0) i).2.2.1,(fQ r i (wb (r i) 0) i).2.2.2.1,ao,(fQ r i (wb (r i) 0) i).2.2.2.2.2)=fQ r i ((i:Int),f.cr,0,f.nx,ao,lb (r i)):=by
       funext q
       by_cases e:q=i
       ·rw[e,cO,cO,cO];show((r i).1,(r i).2.1,0,(r i).2.2.2.1,ao,(r i).2.2.2.2.2)=_;rw[q2]
       ·rw[fE _ _ e,fE _ _ e,fE _ _ e]
      rw[hup]at h;have h:=h.dv b X (dN X u.c (fQ r i ((i:Int),f.cr,0,f.nx,ao,lb (r i))) t) s1 s2 (cd u.lv).2;have hpi:eM {u with lv:=(cd u.lv).2,fl:=jT u.fl i (some {f with si:=ao})} i=0:=by
       unfold eM;rw[←pw hh hi (p:=0) (by decide),yX _ _ (by decide),ay (by simp)];rw[show({u with lv:=pZ u.lv (i:Int) 0,fl:=jT u.fl i (some {f with si:=ao})}:Qm).fl i=_ from cg _ _ _];exact aC e3
      have hq2:=Bo (u':={u with lv:=(cd u.lv).2,fl:=jT u.fl i (some {f with si:=ao})}) hq hf (cg _ _ _) (λj e=>dX _ _ e) (λj e=>jR (dX _ _ e) (by rw[←pw hh hi (p:=0) (by decide)];exact nQ u.lv 0 (by omega))) ((i:Int),f.cr,0,f.nx,ao,lb (r i)) (by rw[hpi]);have hs2:fw {u with lv:=(cd u.lv).2,fl:=jT u.fl i (some {f with si:=ao})} i=f.sg:=by
       unfold fw;rw[show({u with lv:=(cd u.lv).2,fl:=jT u.fl i (some {f with si:=ao})}:Qm).fl i=_ from cg _ _ _]
      have h:=h.EY r (fw u) hi8;rw[q3]at h;have h:=h.HZ r (fQ r i ((i:Int),f.cr,0,f.nx,ao,lb (r i))) (fw u) (fw {u with lv:=(cd u.lv).2,fl:=jT u.fl i (some {f with si:=ao})}) hi8 (λj e=>fE _ _ e) (λj e=>wG u i _ _ _ _ e) (tk:=by rw[hs2,cO];infer_instance);have hmu:=pN hA (some {f with si:=ao}) u.ks;exact next () {u with lv:=(cd u.lv).2,fl:=jT u.fl i (some {f with si:=ao})} w ⟨hA.B_ e3 hn,k,by omega,by rw[e3];exact hR⟩ (h.fe b X {u with lv:=(cd u.lv).2,fl:=jT u.fl i (some {f with si:=ao})} _ t hq2).aG hmu
     have c3:(lb (r i)).len≠0:=by
      have c3:¬(((lb (r i)).len:Nat):Int)=0:=(by simpa using c3);omega
     have e3:f.sg≠[]:=λe=>by rw[e]at hsl;exact c3 (by simpa using hsl)
     cases hss:f.sg with
     |nil=>exact absurd hss e3
     |cons s0 ss=>
     rw[hss]at hR;simp only at hR;have q3':=q3;rw[hss]at q3';refine ac (aj h (Bn X u.c r t s1 s2 hi8) ?_);have h:=h.EY r (fw u) hi8;rw[q3']at h;refine bI (qZ (r i) s0 ss) h λx w h=>?_;obtain⟨hx,h⟩:=h.aB;rw[hx];have e5:(if ur s0>(r i).2.2.2.1 then ur s0 else(r i).2.2.2.1)=da f:=by
      have:(r i).2.2.2.1=f.nx:=(by rw[q2]);rw[this];unfold da;rw[hss]
     rw[e5];refine ae (λc4=>?_) λc4=>?_
     ·have c4:da f>ao:=(by simpa using c4);rw[aC c4]at hR;obtain⟨hOk,hnin,hlt⟩:=hA.wait e3;have h:=h.HZ r r (fw u) (fw u) hi8 (λ_ _=>rfl) (λ_ _=>rfl) (tk:=by rw[q3'];infer_instance);have h:=h.dv b X (dN X u.c r t) s1 s2 u.lv;refine af (vb b X u.c r t u.lv hu.lv i hi8 3 (by decide)) h λ_ w h=>?_;rw[pw hh hi (by decide)]at h;have hpi:eM {u with lv:=(cd u.lv).2,ks:=ma u.ks (da f,(i:Int))} i=3:=by
       unfold eM;rw[←pw hh hi (p:=3) (by decide),yX _ _ (by decide),ay (by simp)];rw[show({u with lv:=pZ u.lv (i:Int) 3,ks:=ma u.ks (da f,(i:Int))}:Qm).fl i=some f from hf];exact ay e3
      have hq2:=Bo (u':={u with lv:=(cd u.lv).2,ks:=ma u.ks (da f,(i:Int))}) hq hf hf (λ_ _=>rfl) (λj e=>jR rfl (by rw[←pw hh hi (p:=3) (by decide)];exact nQ u.lv 3 (by omega))) (wb (r i) 3) (by rw[hpi];show((r i).1,(r i).2.1,3,(r i).2.2.2.1,(r i).2.2.2.2.1,lb (r i))=_;rw[q2]);rw[←Nm r i 3 (fw u),show fw u=fw {u with lv:=(cd u.lv).2,ks:=ma u.ks (da f,(i:Int))}from rfl]at h;have hmu:=pN hA (some f) (ma u.ks (da f,(i:Int)));rw[G4 hf]at hmu;exact next () {u with lv:=(cd u.lv).2,ks:=ma u.ks (da f,(i:Int))} w ⟨hOk,k,by omega,hR⟩ (h.fe b X {u with lv:=(cd u.lv).2,ks:=ma u.ks (da f,(i:Int))} (fQ r i (wb (r i) 3)) t hq2).aG hmu
     have c4:¬da f>ao:=(by simpa using c4);rw[ay c4]at hR;have hlen:=hu.len hf;have hsln:f.sg.length=ss.length+1:=(by rw[hss];rfl);have hUr:=BD hr i;obtain⟨_,hok2⟩:=hF.sg s0 (by rw[hss];simp);have hln:=hok2.ln;have hL:=BC hUr hu.cf.r;have hDl:=om (n:=k_ s0) (by omega) hL;have hcap:=oz (s:=lb (r i)) (K:=KS) (xs:=s0::ss) h;refine ac (aj h (rS X u.c r t s1 s2 hi8) (bR (s:=lb (r i)) h (by decide) (by simp) (dW h (lb (r i)) 0 (y:=s0) rfl rfl ?_)));refine aA h λn47 w h=>aw h (by rfl) λw h=>ac (aj h (rS X u.c r t s1 s2 hi8) ?_);refine vF (s:=lb (r i)) h 1 (lb (r i)).len (lb (r i)).cap rfl rfl rfl rfl (by omega) (by rw[hsl,hss];exact fa _) (by omega) (by omega) λs50 _ _ h=>?_;have ht:((s0::ss).take (lb (r i)).len).drop 1=ss:=(by rw[kp (by rw[hsl,hss];exact fa _)];rfl);rw[ht]at h;have h:=h.nil KS;refine dE (K:=KS) (s:=⟨none,0,0⟩) (x:=s50) (xs:=[]) (ys:=ss) h rfl (by simp only[rN];omega) λs51 w _ h=>?_;have h:=h.eB (s:=s51) (K:=KS) (ys:=ss) rfl;obtain⟨r1,hr1⟩:∃r1,r1=fQ r i ((r i).1,(r i).2.1,(r i).2.2.1,(r i).2.2.2.1,(r i).2.2.2.2.1,s51):=⟨_,rfl⟩;refine ac (az h b (dN X u.c r1 t++.sl s1:: .sl s2::lN X) rfl (iD (by show 1+9+i*6+5+1≤140;omega)) (by rw[hr1];exact Na X u.c r t s1 s2 hi8 s51) λw h=>?_);have hr1i:r1 i=((i:Int),f.cr,eM u i,f.nx,f.si,s51):=(by rw[hr1,cO,q2]);have hcw:IntKind.i64.wrap (f.cr-k_ s0)=f.cr-k_ s0:=wi (by omega) (by omega);have e11:(r1 i).2.1=f.cr:=(by rw[hr1i]);refine aH h λw h=>ac (aj h rfl (aj h (CI X u.c r1 t s1 s2 hi8) (ac ?_)));rw[e11];rw[show IntKind.i64.wrap (f.cr-s0.2.2.1)=f.cr-k_ s0 from hcw];obtain⟨r2,hr2⟩:∃r2,r2=fQ r1 i ((r1 i).1,f.cr-k_ s0,(r1 i).2.2.1,(r1 i).2.2.2.1,(r1 i).2.2.2.2.1,(r1 i).2.2.2.2.2):=⟨_,rfl⟩;refine az h b (dN X u.c r2 t++.sl s1:: .sl s2::lN X) rfl (iD (by show 1+9+i*6+1+1≤140;omega)) (by rw[hr2];exact GQ X u.c r1 t s1 s2 hi8 _) λw h=>?_;have hr2i:r2 i=((i:Int),f.cr-k_ s0,eM u i,f.nx,f.si,s51):=(by rw[hr2,cO,hr1i]);refine aH h λw h=>aj h rfl (ac (aj h rfl (bI (vn s rates i) h λx w h=>?_)));obtain⟨hx,h⟩:=h.aB;rw[hx];refine aI h rfl (aI h rfl (af (Jw _ (cR u.c) hUr hu.cf.r) h λx w h=>?_));obtain⟨hx,h⟩:=h.aB;rw[hx];refine aI h rfl (af (ud (k_ s0) _ (by omega) hL) h λx w h=>?_);obtain⟨hx,h⟩:=h.aB;rw[hx];refine af (fz ao _ hn hDl) h λx w h=>?_;obtain⟨hx,h⟩:=h.aB;rw[hx];obtain⟨r3,hr3⟩:∃r3,r3=fQ r2 i ((r2 i).1,(r2 i).2.1,(r2 i).2.2.1,bA ao (dJ (k_ s0) (fR (gM rates i) (cR u.c))),(r2 i).2.2.2.2.1,(r2 i).2.2.2.2.2):=⟨_,rfl⟩;refine ac (az h b (dN X u.c r3 t++.sl s1:: .sl s2::lN X) rfl (iD (by show 1+9+i*6+3+1≤140;omega)) (by rw[hr3];exact Ub X u.c r2 t s1 s2 hi8 _) λw h=>?_);have hr3e:r3=fQ r i ((i:Int),f.cr-k_ s0,eM u i,bA ao (dJ (k_ s0) (fR (gM rates i) (cR u.c))),f.si,s51):=by
      funext q
      by_cases e:q=i
      ·rw[e,cO,hr3,cO,hr2i]
      ·rw[fE _ _ e,hr3,fE _ _ e,hr2,fE _ _ e,hr1,fE _ _ e]
     rw[hr3e]at h;have h:=h.dv b X (dN X u.c (fQ r i ((i:Int),f.cr-k_ s0,eM u i,bA ao (dJ (k_ s0) (fR (gM rates i) (cR u.c))),f.si,s51)) t) s1 s2 u.lv;refine ar (b:=n47) (x:=s0) h rfl (aw h (by rfl) λw h=>ar (b:=n1) (x:=s0) h rfl ?_);have hpi:eM (dP u i f s0 ao (gM rates i)) i=eM u i:=by
      have h1:=nP.2 hA.inl;unfold eM;rw[aC h1];exact(aC h1).symm
     have hq2:=Bo (u':=dP u i f s0 ao (gM rates i)) hq hf (cg _ _ _) (λj e=>dX _ _ e) (λj e=>jR (dX _ _ e) rfl) ((i:Int),f.cr-k_ s0,eM u i,bA ao (dJ (k_ s0) (fR (gM rates i) (cR u.c))),f.si,s51) (by rw[hpi]);have hs2:fw (dP u i f s0 ao (gM rates i)) i=ss:=by
      unfold fw;rw[show(dP u i f s0 ao (gM rates i)).fl i=_ from cg _ _ _];show f.sg.tail=ss;rw[hss];rfl
     have h:=h.HZ r (fQ r i ((i:Int),f.cr-k_ s0,eM u i,bA ao (dJ (k_ s0) (fR (gM rates i) (cR u.c))),f.si,s51)) (fw u) (fw (dP u i f s0 ao (gM rates i))) hi8 (λj e=>fE _ _ e) (λj e=>wG u i _ _ _ _ e) (tk:=by rw[hs2,cO];infer_instance);rw[←hR];exact au.aE rfl (h.fe b X (dP u i f s0 ao (gM rates i)) _ t hq2).aG
    ·refine ac (aj h (rS X u.c r t s1 s2 hi8) ?_);have hs2l:=(h.rd (s:=s2)).2;refine ae (λc2=>?_) λc2=>?_
     ·simp only[fG,p_]at c2;obtain⟨c2,c3⟩:=c2;have c2:(lb (r i)).len=0:=by have c2:(((lb (r i)).len:Nat):Int)=0:=c2;omega
      have e3:f.sg=[]:=jD (by omega);refine ac (aj (x:=s2) h rfl ?_);refine⟨?_,(h.dv b X (dN X u.c r t) s1 s2 u.lv).aG⟩;show decide (((s2.len:Nat):Int)>0)=true↔_;rw[gK,hs2l];constructor
      ·intro x;exact⟨e3,c3,λe=>by rw[e]at x;simp at x⟩
      ·rintro⟨_,_,x⟩;have:u.lv.2.length≠0:=λe=>x (jD e);omega
     ·refine⟨?_,(h.dv b X (dN X u.c r t) s1 s2 u.lv).aG⟩;refine⟨λe=>(by cases e),λ⟨e1,e2,_⟩=>?_⟩;rw[e1]at hsl;have:(lb (r i)).len=0:=by simpa using hsl
      rw[e2,this]at c2;cases c2
  ·obtain⟨r,t,hq,h⟩:=h.bP b X v;refine af (pf b X v hv r t hq) h λx w h=>?_;obtain⟨hx,h⟩:=h.aB;rw[hx];have h:au w0 S R w (ah n1 zS^ba s KU rates^bP b X v):=(h.fe b X v r t hq).aG;refine gn (λ(_:Int) (u:Qm)=>ah n1 zS^ba s KU rates^bP b X u) (λ(y:Int) u=>(iQ u∧oN u ao=oN v ao)∧y=kG u) (λ_ u=>u.ks.length) v h ⟨⟨hv,rfl⟩,rfl⟩ ?_;rintro K (y:Int) u w ⟨⟨hu,hd⟩,hy⟩ h next
   rw[hy];refine aK h (λ_=>ah n1 zS^ba s KU rates^bP b X u) (λ_=>∃k l,u.ks=k::l∧k.1≤ao) (λ_ w hx h=>?_) ?_
   ·obtain⟨k,l,hk,hkn⟩:=hx;obtain⟨i,f,hf,hs,hni,he⟩:=(hu.ks k).1 (by rw[hk];simp);have hi8:=(hu.fl i f hf).1;have hk2:k.2=(i:Int):=by rw[he]
    have hfi:kG u=(i:Int):=(by unfold kG;rw[hk];exact hk2);obtain⟨r,t,hq,h⟩:=h.bP b X u;obtain⟨q1,q2,q3⟩:=hq.some hi8 hf;rw[hfi];refine af (vb b X u.c r t u.lv hu.lv i hi8 2 (by decide)) h λ_ w h=>?_;have hpo:pZ u.lv (i:Int) 2=(mM u k l).lv:=by
     unfold pZ dm mM;unfold ng at hni;rw[eC]at hni;have g:∀L:List Int,(i:Int)∉L→L.filter (λx=>decide (x≠(i:Int)))=L:=λL hL=>by
      rw[zq];intro x hx;have:x≠(i:Int):=λe=>hL (e▸hx);simpa using this
     rw[aC rfl,g _ (λe=>hni (.inl e)),g _ (λe=>hni (.inr e)),hk2]
    rw[hpo]at h;have hpi:eM (mM u k l) i=2:=by
     unfold eM;rw[←hpo,ua];rfl
    have hq2:=Bo (u':=mM u k l) hq hf hf (λ_ _=>rfl) (λj e=>jR rfl (by rw[←hpo];exact nQ u.lv 2 (by omega))) (wb (r i) 2) (by rw[hpi];show((r i).1,(r i).2.1,2,(r i).2.2.2.1,(r i).2.2.2.2.1,lb (r i))=_;rw[q2]);rw[←Nm r i 2 (fw u),show fw u=fw (mM u k l)from rfl]at h;have hok:=Pf hu hk;refine af (pf b X (mM u k l) hok (fQ r i (wb (r i) 2)) t hq2) h λx w h=>?_;obtain⟨hx,h⟩:=h.aB;rw[hx];exact next (kG (mM u k l)) (mM u k l) w ⟨⟨hok,by rw[Lc hk hkn,hd]⟩,rfl⟩ (h.fe b X (mM u k l) (fQ r i (wb (r i) 2)) t hq2).aG (by rw[hk];simp)
   ·have stop:∀{w:World},(∀k∈u.ks,¬k.1≤ao)→au w0 S R w (ah n1 zS^ba s KU rates^bP b X u)→True∧au w0 S R w (ah n1 zS^ba s KU rates^bP b X (oN v ao)):=λ{w} hno h=>by
     rw[←hd,Lb hno];exact⟨trivial,h⟩
    cases hk:u.ks with
    |nil=>
     have e:kG u=-1:=(by unfold kG;rw[hk]);rw[e];refine ae (λc=>(by cases c)) λ_=>stop (λk hk2=>by rw[hk]at hk2;cases hk2) h
    |cons k l=>
     obtain⟨i,f,hf,hs,hni,he⟩:=(hu.ks k).1 (by rw[hk];simp);have hi8:=(hu.fl i f hf).1;have hk2:k.2=(i:Int):=by rw[he]
     have hk1:k.1=da f:=(by rw[he]);have hfi:kG u=(i:Int):=(by unfold kG;rw[hk];exact hk2);rw[hfi];refine ae (λ_=>?_) λc=>?_
     ·obtain⟨r,t,hq,h⟩:=h.bP b X u;obtain⟨q1,q2,q3⟩:=hq.some hi8 hf;obtain⟨s1,s2,h⟩:=h.jq b X (dN X u.c r t) u.lv;refine ac ⟨by omega,?_⟩;rw[eR];refine aj h (Bn X u.c r t s1 s2 hi8) ?_;cases hss:f.sg with
      |nil=>exact absurd hss hs
      |cons a1 l1=>
      rw[hss]at q3;have h:=h.EY r (fw u) hi8;rw[q3]at h;refine bI (qZ (r i) a1 l1) h λx w h=>?_;obtain⟨hx,h⟩:=h.aB;rw[hx];have h:=h.HZ r r (fw u) (fw u) hi8 (λ_ _=>rfl) (λ_ _=>rfl) (tk:=by rw[q3];infer_instance);have h:=h.dv b X (dN X u.c r t) s1 s2 u.lv;have h:au w0 S R w (ah n1 zS^ba s KU rates^bP b X u):=(h.fe b X u r t hq).aG;have e5:(if ur a1>(r i).2.2.2.1 then ur a1 else(r i).2.2.2.1)=k.1:=by
       have:(r i).2.2.2.1=f.nx:=(by rw[q2]);rw[this,hk1];unfold da;rw[hss]
      rw[e5];refine ae (λc=>⟨⟨k,l,rfl,bV⟩,h⟩) λc=>?_;have c:¬k.1≤ao:=bV;refine stop (λq hq2=>?_) h;rw[hk]at hq2;rcases dO.1 hq2 with rfl|hq2
      ·exact c
      ·have hsr:=hu.wI;rw[hk]at hsr;have:=(tq.1 hsr).1 q hq2;rw[pV]at this;omega
     ·exfalso;simp at c
end Qu

namespace WZ
open bB bi ff EW _root_.Go.X.Tree iy kj lp fg lK lV C7 wP wR ET EU JY JS NW Qq E4 NM Qu
theorem M7{u u':Qm}{r:Nat→RF}{t:Nat→Bool}(h:Rq u r t){i:Nat}{f':Fl}(hf':u'.fl i=some f')(hfl:∀j,j≠i→u'.fl j=u.fl j)(hpl:∀j,j≠i→eM u' j=eM u j)(x:RF)(hx:x=((i:Int),f'.cr,eM u' i,f'.nx,f'.si,lb x)):Rq u' (fQ r i x) (oS t i true):=⟨λq hq8=>by
  by_cases e:q=i
  ·rw[e,hf',vD];rfl
  ·rw[hfl q e,CV _ _ e];exact h.t q hq8,λq hq8=>by
  by_cases e:q=i
  ·rw[e,cO];unfold xv;rw[hf'];exact hx
  ·rw[fE _ _ e];have:=h.r q hq8;unfold xv at this⊢;rw[hfl q e,hpl q e];exact this⟩
theorem Ur{r:Nat→RF}{i:Nat}{x:RF}(h:r i=x):fQ r i x=r:=by
 funext j
 by_cases e:j=i
 ·rw[e,cO,h]
 ·exact fE _ _ e
theorem NA{t:Nat→Bool}{i:Nat}{x:Bool}(h:t i=x):oS t i x=t:=by
 funext j
 by_cases e:j=i
 ·rw[e,vD,h]
 ·exact CV _ _ e
theorem G6(r:Nat→RF)(i:Nat)(x y:RF):fQ (fQ r i x) i y=fQ r i y:=by
 funext j
 by_cases e:j=i
 ·rw[e,cO,cO]
 ·rw[fE _ _ e,fE _ _ e,fE _ _ e]
def xA(b i n1:Nat)(sx:Sl)(R:Rs.T [.lf (.int .i64),.lf (.int .i64)]→WP):WP:=
 deref (some ⟨b,1+9+i*6⟩) λq58=>
 st ⟨q58.b,q58.o+5⟩ [.sl sx]<|
 deref (some ⟨b,1+9+i*6⟩) λq59=>
 ld [.int .i64] ⟨q59.b,q59.o+2⟩ λ(x60:Int)=>
 aq (x60==(0:Int)) (
 deref (some ⟨b,1+9+i*6⟩) λq61=>
 st ⟨q61.b,q61.o+2⟩ [.int .i64 (1:Int)]<|
 deref (some ⟨b,1+9+i*6⟩) λq62=>
 st ⟨q62.b,q62.o+4⟩ [.int .u64 (0:Int)]<|
 bF<|
 deref (some ⟨b,1⟩) λq63=>
 ld [.int .i64] ⟨n1,0⟩ λ(x64:Int)=>
 call Tryz.prog oK [.lf (.ptr (some ⟨q63.b,q63.o+65⟩)),.lf (.int .i64 x64),.lf (.bool true)] [.lf (.int .i64)] λ(_:Int)=>
 R ((0:Int),(0:Int)))<|
 R ((0:Int),(0:Int))
theorem VR{lv:LV}{i:Int}:bH (lv.1++[i],lv.2) i=1:=by unfold bH;simp
theorem F1(lv:LV){i j:Int}(h:j≠i):bH (lv.1++[i],lv.2) j=bH lv j:=by unfold bH;simp[h]
theorem NF{w0 w:World}{S0 R0:Nat→Prop}{G:SP}{R:Rs.T [.lf (.int .i64),.lf (.int .i64)]→WP}{b n1:Nat}{X:Cx}{u:Qm}(hu:iQ u){i:Nat}(hi8:i<8){ao:Int}{r:Nat→RF}{t:Nat→Bool}(hq:Rq u r t){sx s1 s2:Sl}{x:RF}{g:Fl}{sd:Sg}(hsd:sK sd=(i:Int))
  (hx:x=((i:Int),g.cr,eM u i,g.nx,g.si,lb x)) (hg:(if eM u i=0 then{g with si:=0}else g)=fF u i ao)
  (h:au w0 S0 R0 w (ah n1 (Ks.mk KS sd)^ah b (dN X u.c (fQ r i x) (oS t i true)++.sl s1:: .sl s2::lN X)^aP s1 KI u.lv.1^aP s2 KI u.lv.2^aP sx KS (g.sg++[sd])^dV (td (qQ r (fw u)) i) 8^G))
  (k:∀w',au w0 S0 R0 w' (bP b X (kl (eE u i ao) i sd)^G)→R (0,0) w'):xA b i n1 sx R w:=by
 unfold xA;have hl:=hu.lv.FE;have hwg:(fF u i ao).sg=g.sg:=by rw[←hg];split<;>rfl
 have e2:∀y:Sl,(fQ r i x i).1=(i:Int):=λ_=>by rw[cO,hx]
 have hX:∀y:RF,fQ (fQ r i x) i y=fQ r i y:=λy=>G6 r i x y;refine ac ?_;refine az h b (dN X u.c (fQ r i (x.1,x.2.1,x.2.2.1,x.2.2.2.1,x.2.2.2.2.1,sx)) (oS t i true)++.sl s1:: .sl s2::lN X) rfl (iD (by show 1+9+i*6+5+1≤140;omega)) (by rw[Na X u.c (fQ r i x) (oS t i true) s1 s2 hi8 sx,hX,cO]) λw h=>?_;obtain⟨x2,hx2⟩:∃x2:RF,x2=((i:Int),g.cr,eM u i,g.nx,g.si,sx):=⟨_,rfl⟩;rw[show(x.1,x.2.1,x.2.2.1,x.2.2.2.1,x.2.2.2.2.1,sx)=x2 by rw[hx2,hx]]at h;refine ac (aj h (CJ X u.c (fQ r i x2) (oS t i true) s1 s2 hi8) ?_);have e3:(fQ r i x2 i).2.2.1=eM u i:=by rw[cO,hx2]
 rw[e3];refine ae (λc=>?_) λc=>?_
 ·have hp:eM u i=0:=bV;have hni:=(y5.1 hp).1;rw[aC hp]at hg;refine ac (az h b (dN X u.c (fQ r i ((i:Int),g.cr,1,g.nx,g.si,sx)) (oS t i true)++.sl s1:: .sl s2::lN X) rfl (iD (by show 1+9+i*6+2+1≤140;omega)) (by rw[M9 X u.c (fQ r i x2) (oS t i true) s1 s2 hi8 1,G6,cO,hx2]) λw h=>?_);refine ac (az h b (dN X u.c (fQ r i ((i:Int),g.cr,1,g.nx,0,sx)) (oS t i true)++.sl s1:: .sl s2::lN X) rfl (iD (by show 1+9+i*6+4+1≤140;omega)) (by rw[M_ X u.c (fQ r i ((i:Int),g.cr,1,g.nx,g.si,sx)) (oS t i true) s1 s2 hi8 0,G6,cO]) λw h=>?_);have h:=h.dv b X (dN X u.c (fQ r i ((i:Int),g.cr,1,g.nx,0,sx)) (oS t i true)) s1 s2 u.lv;refine aH h λw h=>ac (aj (x:=(i:Int)) h (by rw[←hsd];rfl) ?_);refine af (yQ b X (dN X u.c (fQ r i ((i:Int),g.cr,1,g.nx,0,sx)) (oS t i true)) (1+65) rfl u.lv (i:Int) true (by omega)) h λ_ w h=>?_;obtain⟨_,h⟩:=h.aB;have hw:j_ u i=(u.lv.1++[(i:Int)],u.lv.2):=by
   unfold j_;rw[ay (by rw[hp];simp),F4 hi8 hni]
  rw[F4 hi8 hni]at h;have hpi:eM (kl (eE u i ao) i sd) i=1:=by
   rw[lK.add_eq];unfold eM;show(if bH (j_ u i) (i:Int)≠0 then bH (j_ u i) (i:Int)else _)=_;rw[hw,VR];rfl
  have hq2:=M7 (u':=kl (eE u i ao) i sd) hq (by rw[lK.add_eq];exact cg _ _ _) (λj e=>by rw[lK.add_eq];exact dX _ _ e) (λj e=>by
   rw[lK.add_eq];exact jR (dX _ _ e) (by show bH (j_ u i) _=_;rw[hw];exact F1 u.lv (by omega))) ((i:Int),g.cr,1,g.nx,0,sx) (by rw[hpi,←hg])
  have hs2:fw (kl (eE u i ao) i sd) i=g.sg++[sd]:=by
   unfold fw;rw[lK.add_eq,hwg];rw[show({u with fl:=jT u.fl i (some {fF u i ao with sg:=g.sg++[sd]}),lv:=j_ u i,n:=u.n+1}:Qm).fl i=_ from cg _ _ _]
  have h:=h.HZ r (fQ r i ((i:Int),g.cr,1,g.nx,0,sx)) (fw u) (fw (kl (eE u i ao) i sd)) hi8 (λj e=>fE _ _ e) (λj e=>by rw[lK.add_eq];exact wG u i _ _ _ _ e) (tk:=by rw[hs2,cO];infer_instance);have hcl:(kl (eE u i ao) i sd).c=u.c∧(kl (eE u i ao) i sd).lv=(u.lv.1++[(i:Int)],u.lv.2):=by rw[lK.add_eq];exact⟨rfl,hw⟩
  refine k w ?_;rw[←hcl.1,←hcl.2]at h;exact(h.fe b X (kl (eE u i ao) i sd) _ _ hq2).aG
 ·have hp:eM u i≠0:=bV;rw[ay hp]at hg;have h:=h.dv b X (dN X u.c (fQ r i x2) (oS t i true)) s1 s2 u.lv;have hw:j_ u i=u.lv:=by unfold j_;rw[aC hp]
  have hpi:eM (kl (eE u i ao) i sd) i=eM u i:=by
   rw[lK.add_eq];unfold eM;show(if bH (j_ u i) (i:Int)≠0 then bH (j_ u i) (i:Int)else match jT u.fl i (some {fF u i ao with sg:=(fF u i ao).sg++[sd]}) i with|none=>0|some f=>if f.sg=[]then 0 else 3)=if bH u.lv (i:Int)≠0 then bH u.lv (i:Int)else match u.fl i with|none=>0|some f=>if f.sg=[]then 0 else 3
   rw[hw,cg];by_cases hpl:bH u.lv (i:Int)≠0
   ·rw[aC hpl,aC hpl]
   ·rw[ay hpl,ay hpl];have hp2:eM u i=match u.fl i with|none=>0|some f=>if f.sg=[]then 0 else 3:=by
     unfold eM;rw[ay hpl]
     rfl
    simp only;rw[ay (by simp)];cases hf:u.fl i with
    |none=>rw[hf]at hp2;exact absurd hp2 hp
    |some f=>
     rw[hf]at hp2;simp only at hp2⊢;split at hp2
     ·exact absurd hp2 hp
     ·rename_i hne;rw[ay hne]
  have hq2:=M7 (u':=kl (eE u i ao) i sd) hq (by rw[lK.add_eq];exact cg _ _ _) (λj e=>by rw[lK.add_eq];exact dX _ _ e) (λj e=>by
   rw[lK.add_eq];exact jR (dX _ _ e) (by show bH (j_ u i) _=_;rw[hw])) x2 (by rw[hpi,←hg];exact hx2.trans (by rw[hx2]))
  have hs2:fw (kl (eE u i ao) i sd) i=g.sg++[sd]:=by
   unfold fw;rw[lK.add_eq,hwg];rw[show({u with fl:=jT u.fl i (some {fF u i ao with sg:=g.sg++[sd]}),lv:=j_ u i,n:=u.n+1}:Qm).fl i=_ from cg _ _ _]
  have hsl:lb (fQ r i x2 i)=sx:=by rw[cO,hx2]
  have h:=h.HZ r (fQ r i x2) (fw u) (fw (kl (eE u i ao) i sd)) hi8 (λj e=>fE _ _ e) (λj e=>by rw[lK.add_eq];exact wG u i _ _ _ _ e) (tk:=by rw[hs2,hsl];infer_instance);have hcl:(kl (eE u i ao) i sd).c=u.c∧(kl (eE u i ao) i sd).lv=u.lv:=by rw[lK.add_eq];exact⟨rfl,hw⟩
  refine k w ?_;rw[←hcl.1,←hcl.2]at h;exact(h.fe b X (kl (eE u i ao) i sd) _ _ hq2).aG
end WZ

namespace E5
open bB bi ff EW _root_.Go.X.Tree iy kj lp fg lK lV C7 wP wR ET EU JY JS NW Qq E4 NM Qu WZ
theorem MZ(b:Nat)(X:Cx)(v:Qm)(hv:iQ v)(s:Sg)(ao:Int)(hs:U (P5 s)∧U (ur s))(hn:U ao):bm (RU (some ⟨b,1⟩) s ao) (bP b X v) (λr=>bh (r=(fo v s ao).1) (bP b X (fo v s ao).2)):=
 br λw0 S R h=>by
  refine aA h λn1 w h=>?_;have h:au w0 S R w (ah n1 (Ks.mk KS s)^bP b X v):=h;refine aK h (λ_=>ah n1 (Ks.mk KS s)^bP b X v) (λ_=>0≤sK s∧sK s≤7) (λ_ w hk h=>?_) ?_;rotate_left
  ·have bad:∀{w:World},¬(0≤sK s∧sK s≤7)→au w0 S R w (ah n1 (Ks.mk KS s)^bP b X v)→au w0 S R w (bh (((0:Int),(8:Int))=(fo v s ao).1) (bP b X (fo v s ao).2)):=λ{w} c h=>by
    have e:fo v s ao=((0,8),v):=(by unfold fo;rw[aC c]);rw[e];exact au.aE rfl h.aG
   refine aj h rfl (ae (λc=>?_) λc=>?_)
   ·have c:sK s<0:=bJ c;exact bad (by omega) h
   ·have c:¬sK s<0:=bQ c;refine aj h rfl (ae (λc2=>?_) λc2=>?_)
    ·have c2:sK s≥8:=bJ c2;exact bad (by omega) h
    ·have c2:¬sK s≥8:=bQ c2;exact⟨by omega,h⟩
  refine aK h (λ_=>ah n1 (Ks.mk KS s)^bP b X v) (λ_=>1≤k_ s∧k_ s≤65536) (λ_ w hln h=>?_) ?_;rotate_left
  ·have bad:∀{w:World},¬(1≤k_ s∧k_ s≤65536)→au w0 S R w (ah n1 (Ks.mk KS s)^bP b X v)→au w0 S R w (bh (((0:Int),(1:Int))=(fo v s ao).1) (bP b X (fo v s ao).2)):=λ{w} c h=>by
    have e:fo v s ao=((0,1),v):=(by unfold fo;rw[ay (λx=>x hk),aC c]);rw[e];exact au.aE rfl h.aG
   refine aj h rfl (ae (λc=>?_) λc=>?_)
   ·have c:k_ s<1:=bJ c;exact bad (by omega) h
   ·have c:¬k_ s<1:=bQ c;refine aj h rfl (ae (λc2=>?_) λc2=>?_)
    ·have c2:k_ s>65536:=bJ c2;exact bad (by omega) h
    ·have c2:¬k_ s>65536:=bQ c2;exact⟨by omega,h⟩
  refine af (CG b X v hv ao) h λ_ w h=>?_;obtain⟨u,hue⟩:∃u,u=bD v ao:=⟨_,rfl⟩;have hu:iQ u:=by rw[hue];exact hv.collect ao
  have huc:u.c=v.c:=by rw[hue]
  rw[←hue]at h;have hen:fo v s ao=if h_ u s ao=0 then((0,0),kl (eE u (sK s).toNat ao) (sK s).toNat (drawn v s ao))else((h_ u s ao,0),u):=by
   unfold fo;rw[ay (λx=>x hk),ay (λx=>x hln),hue]
  obtain⟨i,hi⟩:∃i:Nat,sK s=(i:Int):=⟨(sK s).toNat,by omega⟩;have hi8:i<8:=by omega
  have hit:(sK s).toNat=i:=by rw[hi,eR]
  rw[hit]at hen;have hs1:s.1=(i:Int):=hi;have hH:U (cH u.c):=by have:=hu.cf.h;unfold U;omega
  refine aH h λw h=>aj (x:=(i:Int)) h (by rw[←hs1];rfl) (ac ⟨by omega,ac ?_⟩);rw[eR];obtain⟨r,t,hq,h⟩:=h.bP b X u;obtain⟨s1,s2,h⟩:=h.jq b X (dN X u.c r t) u.lv;refine aj h rfl (af (fz ao (cH u.c) hn hH) h λx w h=>?_);obtain⟨hx,h⟩:=h.aB;rw[hx];have h:=h.dv b X (dN X u.c r t) s1 s2 u.lv;have h:au w0 S R w (ah n1 (Ks.mk KS s)^jq b X (dN X u.c r t) u.lv^dV (qQ r (fw u)) 8):=h.aG;refine aK h (λ_=>ah n1 (Ks.mk KS s)^jq b X (dN X u.c r t) u.lv^dV (qQ r (fw u)) 8) (λ_=>h_ u s ao=0) (λ_ w hf0 h=>?_) ?_;rotate_left
  ·have out:∀{w:World} (x:Int),x≠0→h_ u s ao=x→au w0 S R w (ah n1 (Ks.mk KS s)^jq b X (dN X u.c r t) u.lv^dV (qQ r (fw u)) 8^aT)→au w0 S R w (bh ((x,(0:Int))=(fo v s ao).1) (bP b X (fo v s ao).2)):=λ{w} x hx hfx h=>by
    rw[hen,ay (by rw[hfx];exact hx),hfx];exact au.aE rfl (h.fe b X u r t hq).aG
   obtain⟨s1,s2,h⟩:=h.jq b X (dN X u.c r t) u.lv;refine aH h λw h=>ac (aj h rfl ?_);have h:=h.dv b X (dN X u.c r t) s1 s2 u.lv;refine af (Ex b X u hu r t hq) h λx w h=>?_;obtain⟨hx,h⟩:=h.aB;rw[hx];obtain⟨s1,s2,h⟩:=h.jq b X (dN X u.c r t) u.lv;refine aI h rfl (ae (λc=>?_) λc1=>?_)
   ·have c:u.n≥cL u.c:=bJ c;exact out 2 (by decide) (by unfold h_;rw[aC c]) (h.dv b X (dN X u.c r t) s1 s2 u.lv).aG
   have c1:¬u.n≥cL u.c:=bQ c1;refine aH h λw h=>ac (ac (aj h (rS X u.c r t s1 s2 hi8) (aj h rfl ?_)));have hsl:(lb (r i)).len=(fw u i).length:=by
    have h:=h.EY r (fw u) hi8;exact(h.rd (s:=lb (r i))).2
   have hw:=hu.cf.w;have hex:(((lb (r i)).len:Nat):Int)≥cW u.c↔∃f,u.fl (sK s).toNat=some f∧(f.sg.length:Int)≥cW u.c:=by
    rw[hit,hsl];unfold fw;cases hf:u.fl i with
    |none=>exact⟨λx=>(by simp only[rN]at x;omega),λ⟨_,e,_⟩=>(by cases e)⟩
    |some f=>exact⟨λx=>⟨f,rfl,x⟩,λ⟨g,e,x⟩=>(by cases e;exact x)⟩
   refine ae (λc=>?_) λc2=>?_
   ·have c:(((lb (r i)).len:Nat):Int)≥cW u.c:=bJ c;exact out 3 (by decide) (by unfold h_;rw[ay c1,aC (hex.1 c)]) (h.dv b X (dN X u.c r t) s1 s2 u.lv).aG
   have c2:¬(((lb (r i)).len:Nat):Int)≥cW u.c:=bQ c2;have c2:=λx=>c2 (hex.2 x);refine aj h rfl (ae (λc=>?_) λc3=>?_)
   ·have c:ur s>bA ao (cH u.c):=bJ c;refine ac (aj h rfl (ae (λc4=>?_) λc4=>?_))
    ·exact out 4 (by decide) (by unfold h_;rw[ay c1,ay c2,aC ⟨c,c4⟩]) (h.dv b X (dN X u.c r t) s1 s2 u.lv).aG
    ·exact⟨by unfold h_;rw[ay c1,ay c2,ay (λx=>by rw[c4]at x;cases x.2)],(h.dv b X (dN X u.c r t) s1 s2 u.lv).aG⟩
   ·have c3:¬ur s>bA ao (cH u.c):=bQ c3;exact⟨by unfold h_;rw[ay c1,ay c2,ay (λx=>c3 x.1)],(h.dv b X (dN X u.c r t) s1 s2 u.lv).aG⟩
  obtain⟨sd,hsd⟩:∃sd,sd=drawn v s ao:=⟨_,rfl⟩;have hsdk:sK sd=(i:Int):=by rw[hsd];exact hi
  rw[hen,aC hf0,←hsd];refine aj h rfl (az h n1 (Ks.mk KS sd) rfl rfl (by rw[hsd,show drawn v s ao=(sK s,P5 s,k_ s,(if bA ao (cH u.c)<ur s then bA ao (cH u.c)else ur s),sAg s) by rw[huc];rfl];rfl) λw h=>?_);refine aK h (λ_=>wZ (λx:RF×Fl=>x.1=((i:Int),x.2.cr,eM u i,x.2.nx,x.2.si,lb x.1)∧(if eM u i=0 then{x.2 with si:=0}else x.2)=fF u i ao) (λx=>ah n1 (Ks.mk KS sd)^jq b X (dN X u.c (fQ r i x.1) (oS t i true)) u.lv^aP (lb x.1) KS x.2.sg^dV (td (qQ r (fw u)) i) 8)) (λ_=>True) (λ_ w _ h=>?_) ?_
  ·obtain⟨⟨x,g⟩,⟨hx1,hg⟩,h⟩:=h.Mj;dsimp only at hx1 hg h;have hgl:g.sg.length≤512:=by
    have:(fF u i ao).sg=g.sg:=(by rw[←hg];split<;>rfl);rw[←this,z8];cases hf:u.fl i with
    |none=>simp
    |some f=>exact(hu.len hf).2
   obtain⟨s1,s2,h⟩:=h.jq b X (dN X u.c (fQ r i x) (oS t i true)) u.lv;have esl:(fQ r i x i).2.2.2.2.2=lb x:=by rw[cO]
   refine aH h λw h=>ar (b:=n1) (x:=sd) h rfl (ac (aj h (rS X u.c (fQ r i x) (oS t i true) s1 s2 hi8) ?_));rw[esl];have hck:=P3 X u.c (fQ r i x) (oS t i true) s1 s2 hi8;rw[esl]at hck;refine⟨?_,?_⟩
   ·have h:=h.nil KS;refine dE (K:=KS) (s:=⟨none,0,0⟩) (x:=lb x) (xs:=[]) (ys:=g.sg) h rfl (by simp only[rN];omega) λs55 w _ h=>?_;have h:=h.eB (s:=s55) (K:=KS) (ys:=g.sg) rfl;refine aJ (b:=n1) h (aA h λn56 w h=>?_);refine aI h hck ?_;have h:=h.cT n56 KS [sd] rfl (by simp);refine dE (s:=s55) (x:=⟨some ⟨n56,0⟩,1,1⟩) (ys:=[sd]) h rfl (by simp only[qy];omega) λs57 w _ h=>?_;show xA b i n1 s57 (λx w'=>au w0 S R w' (bh (x=((((0:Int),(0:Int)),kl (eE u i ao) i sd):(Int×Int)×Qm).1) (bP b X ((((0:Int),(0:Int)),kl (eE u i ao) i sd):(Int×Int)×Qm).2))) w;exact NF (G:=aT) (sx:=s57) (s1:=s1) (s2:=s2) (x:=x) (g:=g) hu hi8 hq hsdk hx1 hg h.aG λw h=>au.aE rfl h.bk
   ·refine aA h λn66 w h=>?_;refine aI h hck ?_;have h:=h.nil KS;refine dE (K:=KS) (s:=⟨none,0,0⟩) (x:=lb x) (xs:=[]) (ys:=g.sg) h rfl (by simp only[rN];omega) λs67 w _ h=>?_;have h:=h.eB (s:=s67) (K:=KS) (ys:=g.sg) rfl;refine aJ (b:=n1) h ?_;have h:=h.cT n66 KS [sd] rfl (by simp);refine dE (s:=s67) (x:=⟨some ⟨n66,0⟩,1,1⟩) (ys:=[sd]) h rfl (by simp only[qy];omega) λs68 w _ h=>?_;show xA b i n1 s68 (λx w'=>au w0 S R w' (bh (x=((((0:Int),(0:Int)),kl (eE u i ao) i sd):(Int×Int)×Qm).1) (bP b X ((((0:Int),(0:Int)),kl (eE u i ao) i sd):(Int×Int)×Qm).2))) w;exact NF (G:=aT) (sx:=s68) (s1:=s1) (s2:=s2) (x:=x) (g:=g) hu hi8 hq hsdk hx1 hg h.aG λw h=>au.aE rfl h.bk
  ·have hsd1:sd.1=(i:Int):=hsdk;have ldk:∀{w:World},Ks.un [.int .i64] (((Ks.mk KS sd).drop (⟨n1,0⟩:Pt).o).take 1)=some (i:Int):=λ{w}=>by rw[←hsd1];rfl
   obtain⟨s1,s2,h⟩:=h.jq b X (dN X u.c r t) u.lv;refine aH h λw h=>aj (x:=(i:Int)) h (by rw[←hsd1];rfl) (ac ⟨by omega,?_⟩);rw[eR];refine aj h (Ez X u.c r t s1 s2 hi8) ?_;cases hf:u.fl i with
   |none=>
    obtain⟨q1,q2,q3⟩:=hq.none hi8 hf;rw[q1];refine ae (λ_=>?_) λc=>(by cases c);refine aH h λw h=>aj (x:=(i:Int)) h (by rw[←hsd1];rfl) (ac ⟨by omega,?_⟩);rw[eR];refine az h b (dN X u.c r (oS t i true)++.sl s1:: .sl s2::lN X) rfl (iD (by show 1+57+i*1+1≤140;omega)) (GR X u.c r t s1 s2 hi8 true) λw h=>?_;refine aH h λw h=>aj (x:=(i:Int)) h (by rw[←hsd1];rfl) (ac (aj h rfl (ac ?_)));refine az h b (dN X u.c (fQ r i ((i:Int),cF u.c,0,0,0,⟨none,0,0⟩)) (oS t i true)++.sl s1:: .sl s2::lN X) rfl (iD (by show 1+9+i*6+6≤140;omega)) (M8 X u.c r (oS t i true) s1 s2 hi8 ((i:Int),cF u.c,0,0,0,⟨none,0,0⟩)) λw h=>?_;have h:=h.dv b X (dN X u.c (fQ r i ((i:Int),cF u.c,0,0,0,⟨none,0,0⟩)) (oS t i true)) s1 s2 u.lv;have h:=h.EY r (fw u) hi8;have h:=h.nil KS;have hp:eM u i=0:=y5.2 ⟨λx=>(by
     obtain⟨f,hf2⟩:=hu.th i x;rw[hf]at hf2;cases hf2),λf hf2=>(by rw[hf]at hf2;cases hf2)⟩
    refine⟨trivial,(h.qH (f:=λx:RF×Fl=>ah n1 (Ks.mk KS sd)^jq b X (dN X u.c (fQ r i x.1) (oS t i true)) u.lv^aP (lb x.1) KS x.2.sg^dV (td (qQ r (fw u)) i) 8) (((i:Int),cF u.c,0,0,0,⟨none,0,0⟩),⟨cF u.c,0,0,[]⟩) ⟨by rw[hp],?_⟩).bk⟩;rw[aC hp];unfold fF;rw[hf]
   |some f=>
    obtain⟨q1,q2,q3⟩:=hq.some hi8 hf;have hUsi:=(hu.fl i f hf).2.si;rw[q1];refine ae (λc=>(by cases c)) λ_=>?_;have e2:(r i).2.2.1=eM u i:=by rw[q2]
    have e4:(r i).2.2.2.2.1=f.si:=(by rw[q2]);have e1:(r i).2.1=f.cr:=(by rw[q2]);have hid:∀qI,idle u i qI ao=(decide (eM u i=0)&&decide (bA f.si qI≤ao)):=λqI=>by unfold idle;rw[hf]
    have h:=h.dv b X (dN X u.c r t) s1 s2 u.lv;refine aK h (λ_=>ah n1 (Ks.mk KS sd)^jq b X (dN X u.c r t) u.lv^dV (qQ r (fw u)) 8) (λy:Bool=>y=idle u i 40000000 ao) (λ(y:Bool) w hy h=>?_) ?_
    ·rw[hy];obtain⟨s1,s2,h⟩:=h.jq b X (dN X u.c r t) u.lv;have h:=h.EY r (fw u) hi8;rw[q3]at h;refine ae (λc=>?_) λc=>?_
     ·refine aH h λw h=>ac (ac (aj h (CI X u.c r t s1 s2 hi8) (aj h rfl (ac ?_))));rw[e1];refine az h b (dN X u.c (fQ r i ((i:Int),(if cQ u.c>f.cr then cQ u.c else f.cr),eM u i,f.nx,f.si,lb (r i))) t++.sl s1:: .sl s2::lN X) rfl (iD (by show 1+9+i*6+1+1≤140;omega)) (by
       have:=GQ X u.c r t s1 s2 hi8 (if cQ u.c>f.cr then cQ u.c else f.cr);have e:((r i).1,(if cQ u.c>f.cr then cQ u.c else f.cr),(r i).2.2.1,(r i).2.2.2.1,(r i).2.2.2.2.1,(r i).2.2.2.2.2)=((i:Int),(if cQ u.c>f.cr then cQ u.c else f.cr),eM u i,f.nx,f.si,lb (r i)):=(by rw[q2]);rw[e]at this;exact this) λw h=>?_
      have h:=h.dv b X (dN X u.c (fQ r i ((i:Int),(if cQ u.c>f.cr then cQ u.c else f.cr),eM u i,f.nx,f.si,lb (r i))) t) s1 s2 u.lv;rw[show dN X u.c (fQ r i ((i:Int),(if cQ u.c>f.cr then cQ u.c else f.cr),eM u i,f.nx,f.si,lb (r i))) t=dN X u.c (fQ r i ((i:Int),(if cQ u.c>f.cr then cQ u.c else f.cr),eM u i,f.nx,f.si,lb (r i))) (oS t i true) by rw[NA q1]]at h;refine⟨trivial,(h.qH (f:=λx:RF×Fl=>ah n1 (Ks.mk KS sd)^jq b X (dN X u.c (fQ r i x.1) (oS t i true)) u.lv^aP (lb x.1) KS x.2.sg^dV (td (qQ r (fw u)) i) 8) (((i:Int),(if cQ u.c>f.cr then cQ u.c else f.cr),eM u i,f.nx,f.si,lb (r i)),{f with cr:=if cQ u.c>f.cr then cQ u.c else f.cr}) ⟨rfl,?_⟩).bk⟩;have hp:eM u i=0:=by
       rw[hid,fG,gK]at c;exact c.1
      rw[aC hp];unfold fF;rw[hf];simp[hp,c]
     ·have h:=h.dv b X (dN X u.c r t) s1 s2 u.lv;have er:dN X u.c r t=dN X u.c (fQ r i (r i)) (oS t i true):=(by rw[Ur rfl,NA q1]);rw[er]at h;refine⟨trivial,(h.qH (f:=λx:RF×Fl=>ah n1 (Ks.mk KS sd)^jq b X (dN X u.c (fQ r i x.1) (oS t i true)) u.lv^aP (lb x.1) KS x.2.sg^dV (td (qQ r (fw u)) i) 8) (r i,f) ⟨q2,?_⟩).bk⟩;unfold fF;rw[hf];by_cases hp:eM u i=0
      ·simp[hp,c]
      ·simp[hp]
    ·obtain⟨s1,s2,h⟩:=h.jq b X (dN X u.c r t) u.lv;refine ac (aj h (CJ X u.c r t s1 s2 hi8) ?_);rw[e2];refine ae (λc=>?_) λc=>?_
     ·have hp:eM u i=0:=bV;refine ac (aj h (M6 X u.c r t s1 s2 hi8) ?_);rw[e4];refine af (fz f.si 40000000 hUsi (by unfold U;omega)) h λx w h=>?_;obtain⟨hx,h⟩:=h.aB;rw[hx];refine⟨?_,(h.dv b X (dN X u.c r t) s1 s2 u.lv).aG⟩;rw[hid];simp[hp]
     ·have hp:¬eM u i=0:=bV;refine⟨?_,(h.dv b X (dN X u.c r t) s1 s2 u.lv).aG⟩;rw[hid];simp[hp]
end E5

namespace FqT
open bB bi ff _root_.Go.X.Tree iy kj lp fg lK lV C7 wP wR ET EU JY JS NW Qq
def gy(g:Nat→List Int)(i:Nat)(x:List Int):Nat→List Int:=λj=>if j=i then x else g j
abbrev sL(s:Nat→Sl):List Lf:=[.sl (s 0),.sl (s 1),.sl (s 2),.sl (s 3),.sl (s 4),.sl (s 5),.sl (s 6),.sl (s 7)]
section
variable {w0 w:World} {S0 R0:Nat→Prop} {F G:SP}
end
end FqT

namespace UC
open bB bi fg lK lV eS z9 Bw Ae qk E2 ES Hd NV Qp
open dZ (Sk bY b_ eh ie ii cK bp dI)
theorem K6{p:BA}(h:Wk p):JT (rh p.1) where
 l:=by
  show(if dL p.1>200000 then 200000 else dL p.1)<9223372036854775808;split<;>omega
 u:=h.u
 a:=h.a
 c:=h.c
end UC

namespace Wh
open bB bi fg lK lV eS z9 Bw Ae qk E2 ES Hd NV Qp UC
open dZ (Sk bY b_ eh ie ii cK bp dI)
open nG (mc)
open lL (oH)
def EY(x:Option Fl):List Sg:=match x with
 |none=>[]
 |some f=>f.sg
abbrev b0(c:Ct):Int:=c.2.1
abbrev b1(c:Ct):Int:=c.2.2.1
abbrev b2(c:Ct):Int:=c.2.2.2.1
abbrev b3(c:Ct):Int:=c.2.2.2.2.1
abbrev b4(c:Ct):Int:=c.2.2.2.2.2.1
abbrev b5(c:Ct):Int:=c.2.2.2.2.2.2.1
end Wh

namespace WU
open bB bi fg lK lV eS z9 Bw Ae qk E2 ES Hd NV Qp UC Wh
open dZ (Sk bY b_ eh ie ii cK bp dI)
section
variable {w0 w:World} {S R:Nat→Prop}
end
abbrev c8(c:Ct):List Int:=[c.1,b0 c,b1 c,b2 c,b3 c,b4 c,b5 c,sW c]
end WU

namespace Wi
open bB bi fg lK lV eS z9 Bw Ae qk E2 ES Hd NV Qp UC Wh WU
open dZ (Sk bY b_ eh ie ii cK bp dI)
section
variable {w0 w:World} {S R:Nat→Prop} {F G:SP}
end
theorem Ey(c:Cf):bm (Wt c) aT (λr=>bh (r=may c) aT):=
 br λw0 S R h=>by
  refine aA h λn1 w h=>?_;have no:∀{w:World},¬(may c=true)→au w0 S R w (ah n1 (Ks.mk KC c)^aT)→au w0 S R w (bh (false=may c) aT):=λ{w} hm h=>au.aE (by cases hh:may c with
   |false=>rfl
   |true=>exact absurd hh hm) h.fV
  have um:may c=true↔((100≤cQ c∧cQ c≤65536)∧(100≤cF c∧cF c≤65536)∧(1≤cL c∧cL c≤512)∧(1≤cW c∧cW c≤512)∧cH c≤4611686018427387904∧(1≤dM c∧dM c≤1073741824)∧(100≤eF c∧eF c≤9000)):=by
   unfold may;simp only[fG,gK]
  refine aj h rfl (ae (λc0=>?_) λc0=>?_);rotate_left
  ·have c0:¬cQ c≥100:=bQ c0;exact no (λx=>by rw[um]at x;omega) h
  have c0:cQ c≥100:=bJ c0;refine aj h rfl (ae (λc1=>?_) λc1=>?_);rotate_left
  ·have c1:¬cQ c≤65536:=bQ c1;exact no (λx=>by rw[um]at x;omega) h
  have c1:cQ c≤65536:=bJ c1;refine aj h rfl (ae (λc2=>?_) λc2=>?_);rotate_left
  ·have c2:¬cF c≥100:=bQ c2;exact no (λx=>by rw[um]at x;omega) h
  have c2:cF c≥100:=bJ c2;refine aj h rfl (ae (λc3=>?_) λc3=>?_);rotate_left
  ·have c3:¬cF c≤65536:=bQ c3;exact no (λx=>by rw[um]at x;omega) h
  have c3:cF c≤65536:=bJ c3;refine aj h rfl (ae (λc4=>?_) λc4=>?_);rotate_left
  ·have c4:¬cL c≥1:=bQ c4;exact no (λx=>by rw[um]at x;omega) h
  have c4:cL c≥1:=bJ c4;refine aj h rfl (ae (λc5=>?_) λc5=>?_);rotate_left
  ·have c5:¬cL c≤512:=bQ c5;exact no (λx=>by rw[um]at x;omega) h
  have c5:cL c≤512:=bJ c5;refine aj h rfl (ae (λc6=>?_) λc6=>?_);rotate_left
  ·have c6:¬cW c≥1:=bQ c6;exact no (λx=>by rw[um]at x;omega) h
  have c6:cW c≥1:=bJ c6;refine aj h rfl (ae (λc7=>?_) λc7=>?_);rotate_left
  ·have c7:¬cW c≤512:=bQ c7;exact no (λx=>by rw[um]at x;omega) h
  have c7:cW c≤512:=bJ c7;refine aj h rfl (ae (λc8=>?_) λc8=>?_);rotate_left
  ·have c8:¬cH c≤4611686018427387904:=bQ c8;exact no (λx=>by rw[um]at x;omega) h
  have c8:cH c≤4611686018427387904:=bJ c8;refine aj h rfl (ae (λc9=>?_) λc9=>?_);rotate_left
  ·have c9:¬dM c≥1:=bQ c9;exact no (λx=>by rw[um]at x;omega) h
  have c9:dM c≥1:=bJ c9;refine aj h rfl (ae (λc10=>?_) λc10=>?_);rotate_left
  ·have c10:¬dM c≤1073741824:=bQ c10;exact no (λx=>by rw[um]at x;omega) h
  have c10:dM c≤1073741824:=bJ c10;refine aj h rfl (ae (λc11=>?_) λc11=>?_);rotate_left
  ·have c11:¬eF c≥100:=bQ c11;exact no (λx=>by rw[um]at x;omega) h
  have c11:eF c≥100:=bJ c11;refine aj h rfl (au.aE ?_ h.fV);show decide (eF c≤9000)=may c;rw[jk,um,gK];omega
end Wi

namespace NX
open bB bi fg lK lV eS z9 Bw Ae qk E2 ES Hd ff EW E4 NM E5 Rc
open dZ (Sk bY b_ eh ie ii cK bp dI)
open nG (mc pq)
open lL (oH)
open wT (Ip gN gF gS gA)
open Io (kK)
open Rf (pE xK)
open UG (zL Bt vE)
def CL(p:Option Pt)(x:Option Sk):SP:=match x with
 |none=>bh (p=none) aT
 |some f=>wZ (λy:Nat×Int=>p=some ⟨y.1,0⟩∧pE y.2 f.cap f) (λy=>kK y.1 y.2 f.cap f)
instance(p:Option Pt)(x:Option Sk):qq (CL p x):=by unfold CL;split<;>infer_instance
abbrev P4(p:Nat→Option Pt)(fl:Nat→Option Sk):Nat→SP:=λj=>CL (p j) (fl j)
abbrev nv(p:Nat→Option Pt)(fl:Nat→Option Sk):SP:=dV (P4 p fl) 8
abbrev tA(p:Nat→Option Pt)(fl:Nat→Option Sk)(i:Nat):SP:=dV (td (P4 p fl) i) 8
def cY(b:Nat)(v:Mc):SP:=wZ (λx:(Nat→Ct)×(Nat→Option Pt)=>KL x.1 v.l∧v.q.c=v.c) (λx=>bP b ⟨v.ao,x.1,x.2⟩ v.q^nv x.2 v.so)
instance(b:Nat)(v:Mc):qq (cY b v):=by unfold cY;infer_instance
section
variable {w0 w:World} {S0 R0:Nat→Prop} {F G:SP}
theorem _root_.Go.X.au.cY(h:au w0 S0 R0 w F)(b:Nat){v:Mc}[tk:mR NX.cY b F v G]:∃(k:Nat→Ct) (p:Nat→Option Pt),(KL k v.l∧v.q.c=v.c)∧au w0 S0 R0 w (bP b ⟨v.ao,k,p⟩ v.q^nv p v.so^G):=by
 obtain⟨x,hx,h⟩:=(h.le tk.le).t_;exact⟨x.1,x.2,hx,h.aG⟩
theorem _root_.Go.X.au.gm(h:au w0 S0 R0 w F)(b:Nat)(k:Nat→Ct)(p:Nat→Option Pt)(v:Mc)(hk:KL k v.l∧v.q.c=v.c)[tk:Take (bP b ⟨v.ao,k,p⟩ v.q^nv p v.so) F G]:au w0 S0 R0 w (NX.cY b v^G):=
 au.qH (f:=λx:(Nat→Ct)×(Nat→Option Pt)=>bP b ⟨v.ao,x.1,x.2⟩ v.q^nv x.2 v.so) (φ:=λx=>KL x.1 v.l∧v.q.c=v.c) h (k,p) hk
theorem _root_.Go.X.au.A9(h:au w0 S0 R0 w F)(p:Nat→Option Pt)(fl:Nat→Option Sk){i:Nat}(hi:i<8){f:Sk}(hf:fl i=some f)[tk:Take (nv p fl) F G]:∃(a:Nat) (m0:Int),(p i=some ⟨a,0⟩∧pE m0 f.cap f)∧au w0 S0 R0 w (kK a m0 f.cap f^tA p fl i^G):=by
 have h:au w0 S0 R0 w ((CL (p i) (fl i)^tA p fl i)^G):=(h.le tk.le).le (aZ (oq _ hi) Le.rfl);have h:=h.le (cy _ _ _);rw[hf]at h;obtain⟨y,hy,h⟩:=au.t_ (φ:=λy:Nat×Int=>p i=some ⟨y.1,0⟩∧pE y.2 f.cap f) (f:=λy=>kK y.1 y.2 f.cap f) h;exact⟨y.1,y.2,hy,h⟩
theorem _root_.Go.X.au.PG(h:au w0 S0 R0 w F)(p:Nat→Option Pt)(fl:Nat→Option Sk){i:Nat}(hi:i<8)(hf:fl i=none)[tk:Take (nv p fl) F G]:p i=none∧au w0 S0 R0 w (tA p fl i^G):=by
 have h:au w0 S0 R0 w ((CL (p i) (fl i)^tA p fl i)^G):=(h.le tk.le).le (aZ (oq _ hi) Le.rfl);have h:=h.le (cy _ _ _);rw[hf]at h;obtain⟨hp,h⟩:=au.aB (p:=p i=none) (A:=aT) h;exact⟨hp,h.drop⟩
theorem Hk(p q:Nat→Option Pt)(fl gl:Nat→Option Sk)(i:Nat)(hp:∀j,j≠i→q j=p j)(hf:∀j,j≠i→gl j=fl j):tA q gl i=tA p fl i:=gQ 8 λj _=>by
 unfold td;split
 ·rfl
 ·rename_i e;show CL _ _=CL _ _;rw[hp j e,hf j e]
theorem _root_.Go.X.au.I5(h:au w0 S0 R0 w F)(p:Nat→Option Pt)(fl:Nat→Option Sk){i:Nat}(hi:i<8)(q:Nat→Option Pt)(gl:Nat→Option Sk)(a:Nat)(m0:Int)(f:Sk)(hp:∀j,j≠i→q j=p j)(hf:∀j,j≠i→gl j=fl j)(hq:q i=some ⟨a,0⟩)(hg:gl i=some f)(hr:pE m0 f.cap f)[tk:Take (kK a m0 f.cap f^tA p fl i) F G]:au w0 S0 R0 w (nv q gl^G):=by
 have h:=(h.le tk.le).le (cy _ _ _);have h:au w0 S0 R0 w (CL (q i) (gl i)^tA p fl i^G):=by
  rw[hg];exact h.qH (φ:=λy:Nat×Int=>q i=some ⟨y.1,0⟩∧pE y.2 f.cap f) (f:=λy=>kK y.1 y.2 f.cap f) (a,m0) ⟨hq,hr⟩
 rw[←Hk p q fl gl i hp hf]at h;exact(h.le (cM _ _ _)).le (aZ (ra (P4 q gl) hi) Le.rfl)
theorem _root_.Go.X.au.X3(h:au w0 S0 R0 w F)(p:Nat→Option Pt)(fl:Nat→Option Sk){i:Nat}(hi:i<8)(q:Nat→Option Pt)(gl:Nat→Option Sk)(hp:∀j,j≠i→q j=p j)(hf:∀j,j≠i→gl j=fl j)(hq:q i=none)(hg:gl i=none)[tk:Take (tA p fl i) F G]:au w0 S0 R0 w (nv q gl^G):=by
 have h:=(h.le tk.le);have h:au w0 S0 R0 w (CL (q i) (gl i)^tA p fl i^G):=by
  rw[hg];exact au.iF (p:=q i=none) (A:=aT) hq (h.le ((aF _).trans (aV _ _)))
 rw[←Hk p q fl gl i hp hf]at h;exact(h.le (cM _ _ _)).le (aZ (ra (P4 q gl) hi) Le.rfl)
theorem TT(h:au w0 S0 R0 w F)(p:Nat→Option Pt)(fl:Nat→Option Sk){i:Nat}(hi:i<8)[tk:Take (nv p fl) F G]:(p i).isNone=(fl i).isNone:=by
 cases hf:fl i with
 |none=>rw[(h.PG p fl hi hf).1];rfl
 |some f=>obtain⟨a,m0,ha,_⟩:=h.A9 p fl hi hf;rw[ha.1];rfl
variable {b:Nat} {X:Cx} {q:Qm}
theorem ui(h:au w0 S0 R0 w F)[tk:Take (bP b X q) F G]{K:Int→WP}(k:K X.ao w):ld [.int .u64] ⟨b,0⟩ K w:=by
 obtain⟨r,t,hq,h⟩:=(h.le tk.le).bP b X q;obtain⟨s1,s2,h⟩:=h.jq b X (dN X q.c r t) q.lv;exact aj h rfl k
theorem G9(h:au w0 S0 R0 w F)[tk:Take (bP b X q) F G]{K:WP}(k:K w):co ⟨b,0⟩ (Ks.mk [.int .u64] X.ao) K w:=by
 obtain⟨r,t,hq,h⟩:=(h.le tk.le).bP b X q;obtain⟨s1,s2,h⟩:=h.jq b X (dN X q.c r t) q.lv;exact aI h rfl k
theorem Uu(h:au w0 S0 R0 w F)[tk:Take (bP b X q) F G]{K:Cf→WP}(k:K q.c w):ld KC ⟨b,0+1⟩ K w:=by
 obtain⟨r,t,hq,h⟩:=(h.le tk.le).bP b X q;obtain⟨s1,s2,h⟩:=h.jq b X (dN X q.c r t) q.lv;exact aj (x:=q.c) h rfl k
theorem z7(h:au w0 S0 R0 w F)[tk:Take (bP b X q) F G]{i:Nat}(hi:i<8){K:Option Pt→WP}(k:K (X.p i) w):ld [.ptr] ⟨b,0+132+i*1⟩ K w:=by
 obtain⟨r,t,hq,h⟩:=(h.le tk.le).bP b X q;obtain⟨s1,s2,h⟩:=h.jq b X (dN X q.c r t) q.lv;exact aj h (VS X q.c r t s1 s2 hi) k
theorem Q7(h:au w0 S0 R0 w F)[tk:Take (bP b X q) F G]{i:Nat}(hi:i<8)(x:Option Pt){K:WP}(k:∀w',au w0 S0 R0 w' (bP b {X with p:=gy X.p i x} q^G)→K w'):st ⟨b,0+132+i*1⟩ [.ptr x] K w:=by
 obtain⟨r,t,hq,h⟩:=(h.le tk.le).bP b X q;obtain⟨s1,s2,h⟩:=h.jq b X (dN X q.c r t) q.lv;refine az h b (mB {X with p:=gy X.p i x} q.c r t s1 s2) rfl (iD (by show 0+132+i*1+1≤140;omega)) (VT X q.c r t s1 s2 hi x) λw h=>?_;have h:=h.dv b {X with p:=gy X.p i x} (dN {X with p:=gy X.p i x} q.c r t) s1 s2 q.lv;exact k w (h.fe b {X with p:=gy X.p i x} q r t hq).aG
end
theorem JF(b ap a:Nat)(k:Int)(X:Cx)(hn:U X.ao)(i:Nat)(x:Sk)(q:Qm)(l:Nat→Ct)(o:Ou)(m0:Int)(s0:Ag k i ⟨x,q,l,o⟩)(hr:pE m0 x.cap x)(hk:KL X.k l)(hl:o.dr.length≤999∧o.ft.length≤999):
  bm (XZ (some ⟨b,0⟩) (some ⟨ap,0⟩) (some ⟨a,0⟩)) (bP b X q^kK ap m0 x.cap x^fu a o)
   (λ_=>wZ (λy:Nat→Ct=>KL y (oA i X.ao ⟨x,q,l,o⟩).l∧pE m0 x.cap (oA i X.ao ⟨x,q,l,o⟩).v) (λy=>bP b {X with k:=y} (oA i X.ao ⟨x,q,l,o⟩).q^kK ap m0 x.cap (oA i X.ao ⟨x,q,l,o⟩).v^fu a (oA i X.ao ⟨x,q,l,o⟩).o)):=
 br λw0 S R h=>by
  obtain⟨e,he⟩:∃e,e=oA i X.ao ⟨x,q,l,o⟩:=⟨_,rfl⟩;rw[←he];obtain⟨c0,hc0⟩:∃c0,c0=x.cap:=⟨_,rfl⟩;rw[←hc0]at h hr⊢;have aG:∀{w:World} (s:Pm) (k1:Nat→Ct),s=e→KL k1 s.l→pE m0 c0 s.v→au w0 S R w (bP b {X with k:=k1} s.q^kK ap m0 c0 s.v^fu a s.o^aT)→au w0 S R w (wZ (λy:Nat→Ct=>KL y e.l∧pE m0 c0 e.v) (λy=>bP b {X with k:=y} e.q^kK ap m0 c0 e.v^fu a e.o)):=by
   intro w s k1 hs h1 h2 h;rw[←hs];exact(h.qH (f:=λy:Nat→Ct=>bP b {X with k:=y} s.q^kK ap m0 c0 s.v^fu a s.o) (φ:=λy=>KL y s.l∧pE m0 c0 s.v) k1 ⟨h1,h2⟩).bk
  have h:au w0 S R w0 (bP b {X with k:=X.k} q^kK ap m0 c0 x^fu a o^aT):=h.aG;refine gn (λ(_:Unit) (s:Pm×(Nat→Ct))=>bP b {X with k:=s.2} s.1.q^kK ap m0 c0 s.1.v^fu a s.1.o^aT) (λ_ s=>Ag k i s.1∧s.1.o=o∧(KL s.2 s.1.l∧pE m0 c0 s.1.v)∧∃n,fresh s.1.v<n∧mC i X.ao n s.1=e) (λ_ s=>fresh s.1.v) (⟨x,q,l,o⟩,X.k) h ⟨s0,rfl,⟨hk,hr⟩,_,zh _,he.symm⟩ ?_;rintro K (y:Unit) ⟨s,k1⟩ w ⟨hs,hso,⟨hk,hr⟩,n,hfn,hN⟩ h next
  dsimp only at hs hso hk hr hfn hN h;cases n with
  |zero=>omega
  |succ n=>
  unfold mC at hN;refine ac (ui (b:=b) (X:={X with k:=k1}) (q:=s.q) h ?_);refine af (zL ap hs.v.i.ok (pq hs.v.i.pc) hr X.ao hn) h λr w h=>?_;obtain⟨hr1,h⟩:=h.aB;rw[hr1];have hrE:=hr.emit X.ao;refine aA h λn7 w h=>aw h (by rfl) λw h=>ae (λce=>?_) λce=>?_
  ·have ce:(bY s.v X.ao).1.2≠0:=(by simpa using ce);rw[aC ce]at hN;exact aG {s with v:=(bY s.v X.ao).2} k1 hN hk hrE h.aG
  ·have ce:(bY s.v X.ao).1.2=0:=(by simpa using ce);rw[ay (λc=>c ce)]at hN;obtain⟨hok,hless⟩:=yp hs hn ce;have hw:=xR hs.v hn ce;have hgs:=C0 hs.v hn ce;have hgn:=hw.n;obtain⟨g,hg⟩:∃g,g=(bY s.v X.ao).1.1:=⟨_,rfl⟩;obtain⟨v',hv'⟩:∃v',v'=(bY s.v X.ao).2:=⟨_,rfl⟩;have hiv:=rv hs.v hn;have een:enter i X.ao s=if(fo s.q g X.ao).1.1=0 then(⟨v',(fo s.q g X.ao).2,(fT s.l i 0).2,s.o⟩,0)
    else(⟨(b_ v' g.2.2.1).2,(fo s.q g X.ao).2,(cd (fT s.l i 0).2 s.o g (fo s.q g X.ao).1.1).2,(cd (fT s.l i 0).2 s.o g (fo s.q g X.ao).1.1).1⟩,1):=by
    rw[hg,hv'];rfl
   rw[←hg]at hw hgs hgn;rw[←hv']at hiv hw hrE;rw[←hg,←hv']at h;have hid:v'.id=(i:Int):=hw.Ar.trans hs.id;have hgk:sK g=(i:Int):=hw.id.trans hs.id;refine aH h λw h=>ar (b:=n7) (x:=g) h rfl (ac (ac (ui (b:=b) (X:={X with k:=k1}) (q:=s.q) h ?_)));refine af (MZ b {X with k:=k1} s.q hs.q g X.ao hgs hn) h λr w h=>?_;obtain⟨hr1,h⟩:=h.aB;rw[hr1];refine aH h λw h=>ac (ac (Bt (b:=ap) (m0:=m0) (c0:=c0) (v:=v') h ?_));rw[hid];refine af (sI b {X with k:=k1} (fo s.q g X.ao).2 (i:Int) 0) h λr w h=>?_;have hk2:=hk.note (i:Int) 0;obtain⟨k2,hke2⟩:∃k2,k2=mU k1 (i:Int) 0:=⟨_,rfl⟩;rw[←hke2]at hk2;have h:au w0 S R w (bP b {X with k:=k2} (fo s.q g X.ao).2^kK ap m0 c0 v'^ah n7 (Ks.mk KS g)^fu a s.o^aT):=by rw[hke2];exact h.aG
   refine ae (λcf=>?_) λcf=>?_;rotate_left
   ·have cf:(fo s.q g X.ao).1.1=0:=(by simpa using cf);rw[aC cf]at een;rw[een]at hN hok hless;rw[aC rfl]at hN;have hless:fresh v'<fresh s.v:=hless;exact next () (⟨v',(fo s.q g X.ao).2,(fT s.l i 0).2,s.o⟩,k2) w ⟨hok,hso,⟨hk2,hrE⟩,n,by show fresh v'<n;omega,hN⟩ h.aG hless
   ·have cf:¬(fo s.q g X.ao).1.1=0:=(by simpa using cf);rw[ay cf]at een;rw[een]at hN hok hless;rw[ay (by show ¬(1:Int)=0;decide)]at hN;refine aH h λw h=>ac (ac (Bt (b:=ap) (m0:=m0) (c0:=c0) (v:=v') h ?_));rw[hid];obtain⟨f,hf⟩:∃f,f=(fo s.q g X.ao).1.1:=⟨_,rfl⟩;rw[←hf]at hN⊢;refine af (sI b {X with k:=k2} (fo s.q g X.ao).2 (i:Int) f) h λr w h=>?_;have hk3:=hk2.note (i:Int) f;obtain⟨k3,hke3⟩:∃k3,k3=mU k2 (i:Int) f:=⟨_,rfl⟩;rw[←hke3]at hk3;obtain⟨s1,s2,s3,h⟩:=h.fu a;have h:au w0 S R w (bP b {X with k:=k3} (fo s.q g X.ao).2^kK ap m0 c0 v'^ah n7 (Ks.mk KS g)^ah a [.sl s1,.sl s2,.sl s3,.int .u64 s.o.wd]^aP s1 KS s.o.oa^aP s2 KS s.o.dr^aP s3 KI s.o.ft^aT):=(by rw[hke3];exact h.aG);have hl2:s.o.dr.length+[g].length≤4294967296:=(by have:=hl.1;rw[hso];simp only[qy];omega);have hl3:s.o.ft.length+[f].length≤4294967296:=(by have:=hl.2;rw[hso];simp only[qy];omega);have fin2:∀{w:World} {t2 t3:Sl},au w0 S R w (aP t3 KI (s.o.ft++[f])^aP t2 KS (s.o.dr++[g])^bP b {X with k:=k3} (fo s.q g X.ao).2^kK ap m0 c0 v'^ah n7 (Ks.mk KS g)^ah a [.sl s1,.sl s2,.sl s3,.int .u64 s.o.wd]^aP s1 KS s.o.oa^aT)→
      (deref (some ⟨a,0⟩) λq15=>st ⟨q15.b,q15.o+1⟩ [.sl t2]<|deref (some ⟨a,0⟩) λq16=>st ⟨q16.b,q16.o+2⟩ [.sl t3]<|ld [.int .i64] ⟨n7,2⟩ λ(x31:Int)=>call Tryz.prog oW [.lf (.ptr (some ⟨ap,0⟩)),.lf (.int .i64 x31)] [.lf (.int .i64)] λ(_:Int)=>λw=>au w0 S R w (wZ (λy:Nat→Ct=>KL y e.l∧pE m0 c0 e.v) (λy=>bP b {X with k:=y} e.q^kK ap m0 c0 e.v^fu a e.o))) w:=by
     intro w t2 t3 h;refine ac (az h a [.sl s1,.sl t2,.sl s3,.int .u64 s.o.wd] rfl rfl rfl λw h=>?_);refine ac (az h a [.sl s1,.sl t2,.sl t3,.int .u64 s.o.wd] rfl rfl rfl λw h=>?_);have h:=h.v9 a s1 t2 t3 {s.o with dr:=s.o.dr++[g],ft:=s.o.ft++[f]};refine aj (x:=g.2.2.1) h rfl (af (xK ap m0 c0 v' ⟨hiv.i.ok.out.1,by have:=hiv.i.o;omega⟩ g.2.2.1 (by show gN g<_;omega)) h λr w h=>?_);obtain⟨_,h⟩:=h.aB;have h:au w0 S R w (bP b {X with k:=k3} (fo s.q g X.ao).2^kK ap m0 c0 (b_ v' g.2.2.1).2^fu a {s.o with dr:=s.o.dr++[g],ft:=s.o.ft++[f]}^aT):=h.aG;refine aG ⟨(b_ v' g.2.2.1).2,(fo s.q g X.ao).2,(cd (fT s.l i 0).2 s.o g f).2,(cd (fT s.l i 0).2 s.o g f).1⟩ k3 hN ?_ (hrE.done _) h;show KL k3 (fT (fT s.l i 0).2 (sK g) f).2;rw[hgk];exact hk3
    refine aH h λw h=>ar (b:=n7) (x:=g) h rfl (ac (ac (aj (x:=s2) h rfl (aj (x:=s3) h rfl (mN ?_ ?_)))))
    ·refine aA h λn11 w h=>aI h rfl (aI h rfl (mN ?_ ?_))
     ·have h:=h.cT n11 KS [g] rfl (by simp);have h:au w0 S R w (aP ⟨some ⟨n11,0⟩,1,1⟩ KS [g]^_):=h;refine dE (K:=KS) (s:=s2) (xs:=s.o.dr) h rfl hl2 λt2 w _ h=>?_;refine aI h rfl (aA h λn13 w h=>aI h rfl (aI h rfl (aJ (b:=n7) h ?_)));have h:=h.cT n13 KI [f] rfl (by simp);have h:au w0 S R w (aP ⟨some ⟨n13,0⟩,1,1⟩ KI [f]^_):=h;refine dE (K:=KI) (s:=s3) (xs:=s.o.ft) h rfl hl3 λt3 w _ h=>?_;exact fin2 h.aG
     ·refine aA h λn17 w h=>aI h rfl (aI h rfl (aJ (b:=n7) h ?_));have h:=h.cT n11 KS [g] rfl (by simp);have h:au w0 S R w (aP ⟨some ⟨n11,0⟩,1,1⟩ KS [g]^_):=h;refine dE (K:=KS) (s:=s2) (xs:=s.o.dr) h rfl hl2 λt2 w _ h=>?_;refine aI h rfl ?_;have h:=h.cT n17 KI [f] rfl (by simp);have h:au w0 S R w (aP ⟨some ⟨n17,0⟩,1,1⟩ KI [f]^_):=h;refine dE (K:=KI) (s:=s3) (xs:=s.o.ft) h rfl hl3 λt3 w _ h=>?_;exact fin2 h.aG
    ·refine aA h λn22 w h=>aI h rfl (aI h rfl (aJ (b:=n7) h (aA h λn23 w h=>aI h rfl (aI h rfl ?_))));have h:=h.cT n23 KS [g] rfl (by simp);have h:au w0 S R w (aP ⟨some ⟨n23,0⟩,1,1⟩ KS [g]^_):=h;refine dE (K:=KS) (s:=s2) (xs:=s.o.dr) h rfl hl2 λt2 w _ h=>?_;refine aI h rfl ?_;have h:=h.cT n22 KI [f] rfl (by simp);have h:au w0 S R w (aP ⟨some ⟨n22,0⟩,1,1⟩ KI [f]^_):=h;refine dE (K:=KI) (s:=s3) (xs:=s.o.ft) h rfl hl3 λt3 w _ h=>?_;exact fin2 h.aG
end NX

namespace UD
open bB bi fg lK lV eS z9 Bw Ae qk E2 ES Hd ff EW E4 NM Qu E5 Rc NX
open dZ (Sk bY b_ eh ie ii cK bp dI)
open Io (kK)
open Rf (pE)
open UG (Bt vE)
theorem Hz(ao:Int)(rates:List Int):∀(k:Nat) (v:Qm),(lA ao rates k v).2.c=v.c
 |0,_=>rfl
 |k+1,v=>by
  unfold lA
  (repeat' split)<;>first|rfl|exact Hz ao rates k _
theorem VA(v:Qm)(ao:Int)(rates:List Int):(jw v ao rates).2.c=v.c:=Hz ao rates _ _
theorem VC(q:Qm)(g:Sg)(t:Int):(fo q g t).2.c=q.c:=by
 unfold fo;split
 ·rfl
 ·split
  ·rfl
  ·split
   ·rw[lK.add_eq]
   ·rfl
theorem O6(q:Qm)(i:Int):(cw q i).2.c=q.c:=by unfold cw;(repeat' split)<;>rfl
theorem Mr(i ao:Int):∀(n:Nat) (s:Pm),(mC i ao n s).q.c=s.q.c
 |0,_=>rfl
 |n+1,s=>by
  have e:(enter i ao s).1.q.c=s.q.c:=by unfold enter;dsimp only;split<;>exact VC _ _ _
  unfold mC;split
  ·rfl
  ·split
   ·rw[Mr i ao n,e]
   ·exact e
abbrev zO:List Lf:=[.sl ⟨none,0,0⟩,.sl ⟨none,0,0⟩,.sl ⟨none,0,0⟩,.int .u64 0]
theorem _root_.Go.X.au.rG{w0 w:World}{S0 R0:Nat→Prop}{F G:SP}(h:au w0 S0 R0 w F)(r:Ks.T oe)(o:Ou)(hr:r.2.2.2=o.wd)[tk:Take (aP r.1 KS o.oa^aP r.2.1 KS o.dr^aP r.2.2.1 qk.KI o.ft) F G]:au w0 S0 R0 w (oc r o^G):=au.iF (p:=r.2.2.2=o.wd) (A:=aP r.1 KS o.oa^aP r.2.1 KS o.dr^aP r.2.2.1 qk.KI o.ft) hr (h.le tk.le)
def GP(b n1 n20:Nat)(is:Bool)(R:Ks.T oe→WP):WP:=
 aq is (
 bF<|
 deref (some ⟨b,0⟩) λq21=>
 ld [.int .i64] ⟨n20,0⟩ λ(x22:Int)=>
 call Tryz.prog oJ [.lf (.ptr (some ⟨q21.b,q21.o+68⟩)),.lf (.int .i64 x22),.lf (.int .i64 (1:Int))] [.lf (.int .i64)] λ(r23:Int)=>
 ld KS ⟨n20,0⟩ λ(x24:Sg)=>
 new [.int .i64 x24.1,.int .u64 x24.2.1,.int .i64 x24.2.2.1,.int .u64 x24.2.2.2.1,.bool x24.2.2.2.2] λn25=>
 st ⟨n1,0⟩ [.sl ⟨some ⟨n25,0⟩,1,1⟩,.sl ⟨none,0,0⟩,.sl ⟨none,0,0⟩,.int .u64 (0:Int)]<|
 ld oe ⟨n1,0⟩ λ(x26:Ks.T oe)=>
 R x26)<|
 deref (some ⟨b,0⟩) λq27=>
 call Tryz.prog mI [.lf (.ptr (some ⟨q27.b,q27.o+1⟩))] [.lf (.int .u64),.lf .bool] λ(r28:Int×Bool)=>
 aq (!r28.2) (
 st ⟨n1,0⟩ [.sl ⟨none,0,0⟩,.sl ⟨none,0,0⟩,.sl ⟨none,0,0⟩,.int .u64 (0:Int)]<|
 ld oe ⟨n1,0⟩ λ(x29:Ks.T oe)=>
 R x29)<|
 st ⟨n1,0⟩ [.sl ⟨none,0,0⟩,.sl ⟨none,0,0⟩,.sl ⟨none,0,0⟩,.int .u64 (if r28.1>(1:Int)then r28.1 else(1:Int))]<|
 ld oe ⟨n1,0⟩ λ(x30:Ks.T oe)=>
 R x30
theorem ND{w0 w:World}{S0 R0:Nat→Prop}{G:SP}{R:Ks.T oe→WP}{b n1 n20:Nat}{k:Nat→Ct}{p:Nat→Option Pt}{v:Mc}(hk:KL k v.l)(hq:iQ (jw v.q v.ao (bK v.so)).2)
  (h:au w0 S0 R0 w (ah n20 (Ks.mk KS (wR.At (jw v.q v.ao (bK v.so)).1).1)^bP b ⟨v.ao,k,p⟩ (jw v.q v.ao (bK v.so)).2^ah n1 zO^G))
  (aG:∀(w':World) (r:Ks.T oe) (k':Nat→Ct) (q':Qm) (l':Nat→Ct) (o':Ou),fy v eQ=(o',{v with q:=q',l:=l'})→q'=(jw v.q v.ao (bK v.so)).2→KL k' l'→au w0 S0 R0 w' (oc r o'^bP b ⟨v.ao,k',p⟩ q'^G)→R r w'):GP b n1 n20 (wR.At (jw v.q v.ao (bK v.so)).1).2 R w:=by
 unfold GP;cases hd:jw v.q v.ao (bK v.so)with
 |mk x q'=>
 rw[hd]at h hq aG;dsimp only at h hq aG⊢;cases x with
 |some s=>
  have e:fy v eQ=(⟨[s],[],[],0⟩,{v with q:=q',l:=(fT v.l (sK s) 1).2}):=by unfold fy;rw[hd]
  refine ae (λ_=>?_) λc=>(by cases c);refine aH h λw h=>ac (aj (x:=sK s) h rfl (af (sI b ⟨v.ao,k,p⟩ q' (sK s) 1) h λr w h=>?_));refine ar (b:=n20) (x:=s) h rfl (aA h λn25 w h=>?_);have h:=h.cT n25 KS [s] rfl (by simp);have h:au w0 S0 R0 w (aP ⟨some ⟨n25,0⟩,1,1⟩ KS [s]^_):=h;refine aw h (by rfl) λw h=>ar (b:=n1) (x:=((⟨some ⟨n25,0⟩,1,1⟩,⟨none,0,0⟩,⟨none,0,0⟩,0):Ks.T oe)) h rfl ?_;have h:=h.nil KS;have h:=h.nil qk.KI;have h:=h.rG (⟨some ⟨n25,0⟩,1,1⟩,⟨none,0,0⟩,⟨none,0,0⟩,0) ⟨[s],[],[],0⟩ rfl;exact aG w _ (mU k (sK s) 1) q' _ _ e rfl (hk.note _ _) h.aG
 |none=>
  refine ae (λc=>(by cases c)) λ_=>?_;refine ac (af (MX b ⟨v.ao,k,p⟩ q' hq) h λr w h=>?_);obtain⟨hr,h⟩:=h.aB;rw[hr];dsimp only;have h:=h.nil KS;have h:=h.nil KS;have h:=h.nil qk.KI;refine ae (λc=>?_) λc=>?_
  ·have c:¬(ni q'.ks).2=true:=(by rw[Bool.not_eq_true];simpa using c);have e:fy v eQ=(eQ,{v with q:=q',l:=v.l}):=(by unfold fy;rw[hd];dsimp only;rw[if_neg c]);refine aw h (by rfl) λw h=>ar (b:=n1) (x:=((⟨none,0,0⟩,⟨none,0,0⟩,⟨none,0,0⟩,0):Ks.T oe)) h rfl ?_;have h:=h.rG (⟨none,0,0⟩,⟨none,0,0⟩,⟨none,0,0⟩,0) eQ rfl;exact aG w _ k q' _ _ e rfl hk h.aG
  ·have c:(ni q'.ks).2=true:=bV;obtain⟨y,hy⟩:∃y:Int,y=if(ni q'.ks).1.1>(1:Int)then(ni q'.ks).1.1 else(1:Int):=⟨_,rfl⟩
   have e:fy v eQ=(⟨[],[],[],y⟩,{v with q:=q',l:=v.l}):=by
    unfold fy;rw[hd];dsimp only;rw[if_pos c,hy]
    congr 2
    split<;>split<;>omega
   rw[←hy];refine aw h (by rfl) λw h=>ar (b:=n1) (x:=((⟨none,0,0⟩,⟨none,0,0⟩,⟨none,0,0⟩,y):Ks.T oe)) h rfl ?_;have h:=h.rG (⟨none,0,0⟩,⟨none,0,0⟩,⟨none,0,0⟩,y) ⟨[],[],[],y⟩ rfl;exact aG w _ k q' _ _ e rfl hk h.aG
theorem JE(b:Nat)(kk:Int)(v:Mc)(hv:iH kk v):bm (XE (some ⟨b,0⟩)) (cY b v) (λr=>cY b (fy v eQ).2^oc r (fy v eQ).1):=
 br λw0 S R h=>by
  obtain⟨k,p,⟨hk,hqc⟩,h⟩:=(h.le (aF _)).cY b;refine aA h λn1 w h=>?_;have h:=h.nil KU;have h:=h.eB (s:=⟨none,0,0⟩) (K:=KU) (ys:=(bK v.so).take (0:Int).toNat) rfl;have h:au w0 S R w (aP ⟨none,0,0⟩ KU ((bK v.so).take (0:Int).toNat)^bP b ⟨v.ao,k,p⟩ v.q^nv p v.so^ah n1 zO^aT):=h.aG;refine gn (λ(y:Sl×Int) (_:Unit)=>aP y.1 KU ((bK v.so).take y.2.toNat)^bP b ⟨v.ao,k,p⟩ v.q^nv p v.so^ah n1 zO^aT) (λ(y:Sl×Int) _=>0≤y.2∧y.2≤8) (λ(y:Sl×Int) _=>(8-y.2).toNat) () h ⟨by decide,by decide⟩ ?_;rintro K (y:Sl×Int) _ w ⟨h0,h1⟩ h next
  obtain⟨s,i⟩:=y;dsimp only at h0 h1 h⊢;refine ae (λc=>?_) λc=>?_
  ·have c:i<8:=bJ c;have hi8:i.toNat<8:=(by omega);have hwi:IntKind.i64.wrap (i+1)=i+1:=wi (by omega) (by omega);have hin:(i+1).toNat=i.toNat+1:=(by omega);rw[hwi];have hlen:((bK v.so).take i.toNat).length=i.toNat:=(by rw[fM];show min i.toNat 8=_;omega);refine aK h (λ_=>aP s KU ((bK v.so).take i.toNat)^bP b ⟨v.ao,k,p⟩ v.q^nv p v.so^ah n1 zO^aT) (λr:Int=>r=pz (v.so i.toNat)) (λ(r:Int) w hr h=>?_) ?_
   ·refine aA h λn9 w h=>?_;have h:=h.cT n9 KU [r] rfl (by simp);have h:au w0 S R w (aP ⟨some ⟨n9,0⟩,1,1⟩ KU [r]^_):=h;refine dE (K:=KU) (s:=s) (xs:=(bK v.so).take i.toNat) h rfl (by rw[hlen];simp only[qy];omega) λs' w _ h=>?_;have e:(bK v.so).take i.toNat++[r]=(bK v.so).take (i+1).toNat:=by
     rw[hin,lF,zE v.so hi8,hr];rfl
    rw[e]at h;exact next (s',i+1) () w ⟨by show 0≤i+1;omega,by show i+1≤8;omega⟩ h.aG (by show(8-(i+1)).toNat<(8-i).toNat;omega)
   ·refine ac ⟨⟨h0,c⟩,z7 (b:=b) (X:=⟨v.ao,k,p⟩) (q:=v.q) h hi8 ?_⟩;dsimp only;cases hs:v.so i.toNat with
    |none=>
     obtain⟨hp,_⟩:=h.PG p v.so hi8 hs;rw[hp];exact ae (λc=>(by simp at c)) λ_=>⟨rfl,h⟩
    |some x=>
     obtain⟨a,m0,⟨hp,hr⟩,h⟩:=h.A9 p v.so hi8 hs;rw[hp];refine ae (λ_=>?_) λc=>(by simp at c);refine ac ⟨⟨h0,c⟩,z7 (b:=b) (X:=⟨v.ao,k,p⟩) (q:=v.q) h hi8 ?_⟩;dsimp only;rw[hp];refine ac (vE (b:=a) (m0:=m0) (c0:=x.cap) (v:=x) h ?_);have h:=h.I5 p v.so hi8 p v.so a m0 x (λ_ _=>rfl) (λ_ _=>rfl) hp hs hr;exact⟨rfl,h.aG⟩
  ·have c:¬i<8:=bQ c;have e:(bK v.so).take i.toNat=bK v.so:=kp (by show 8≤i.toNat;omega);rw[e]at h;have hU:=CE hv;have hok:=JS.K9 hv.q hv.un hU;have aG:∀{w:World} {n20:Nat},au w0 S R w (ah n20 (Ks.mk KS (wR.At (jw v.q v.ao (bK v.so)).1).1)^bP b ⟨v.ao,k,p⟩ (jw v.q v.ao (bK v.so)).2^ah n1 zO^nv p v.so^aT)→GP b n1 n20 (wR.At (jw v.q v.ao (bK v.so)).1).2 (λr w=>au w0 S R w (cY b (fy v eQ).2^oc r (fy v eQ).1)) w:=λ{w n20} h=>ND hk hok h λw' r k' q' l' o' he hq' hk' h=>by
    rw[he];have h:=h.gm b k' p {v with q:=q',l:=l'} ⟨hk',by show q'.c=v.c;rw[hq',VA];exact hqc⟩;exact h.aG
   refine aH h λw h=>ac (ac (ui (b:=b) (X:=⟨v.ao,k,p⟩) (q:=v.q) h (mN ?_ ?_)))
   ·refine bI (A:=bP b ⟨v.ao,k,p⟩ v.q) (Q:=ba s KU (bK v.so)) (Ew b ⟨v.ao,k,p⟩ v.q hv.q v.ao hv.un s (bK v.so) hU) h λr w h=>?_;obtain⟨hr,h⟩:=h.aB;rw[hr];refine aA h λn20 w h=>G9 (b:=b) (X:=⟨v.ao,k,p⟩) (q:=(jw v.q v.ao (bK v.so)).2) h (aw h (by rfl) λw h=>?_);exact aG h.aG
   ·refine aA h λn31 w h=>G9 (b:=b) (X:=⟨v.ao,k,p⟩) (q:=v.q) h ?_;refine bI (A:=bP b ⟨v.ao,k,p⟩ v.q) (Q:=ba s KU (bK v.so)) (Ew b ⟨v.ao,k,p⟩ v.q hv.q v.ao hv.un s (bK v.so) hU) h λr w h=>?_;obtain⟨hr,h⟩:=h.aB;rw[hr];refine aw h (by rfl) λw h=>?_;exact aG h.aG
end UD

end Go.X
