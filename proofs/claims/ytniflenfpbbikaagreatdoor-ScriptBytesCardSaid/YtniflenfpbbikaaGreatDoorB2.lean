/- Contracts. -/
import Derived.Test.YtniflenfpbbikaaGreatDoorB1
set_option linter.all false
set_option autoImplicit true
set_option relaxedAutoImplicit true
namespace Go.X
open IntKind (u64 i64)
open Go.Proofs
namespace mV
open _root_.Go.X.Tree Bz Ei jE lM
theorem AB:∀{c:List jO} {t t':Tr},t.rt=t'.rt→t.ht=t'.ht→iN l (fill t c)→iN l' t'→(∀j,j∈lc c∨j∈rc c→l'[j]?=l[j]?)→iN l' (fill t' c)
 |[],_,_,_,_,_,h,_=>h
 |.L i k r::c,t,t',h1,h2,h3,h4,hf=>by
  have h3':iN l (fill (.n t i k r) c):=h3;obtain⟨⟨q1,q2,q3⟩,_⟩:=kb h3';refine AB (c:=c) (t:=.n t i k r) (t':=.n t' i k r) rfl (by simp only[Tr.ht,h2]) h3' ⟨?_,h4,q3.frame λj hj=>hf j (.inr (by simp[rc,hj]))⟩ λj hj=>hf j (hj.imp (λx=>x) λx=>by simp[rc,x]);rw[hf i (.inr (by simp[rc])),q1,h1,h2]
 |.R q i k::c,t,t',h1,h2,h3,h4,hf=>by
  have h3':iN l (fill (.n q i k t) c):=h3;obtain⟨⟨q1,q2,q3⟩,_⟩:=kb h3';refine AB (c:=c) (t:=.n q i k t) (t':=.n q i k t') rfl (by simp only[Tr.ht,h2]) h3' ⟨?_,q2.frame λj hj=>hf j (.inl (by simp[lc,hj])),h4⟩ λj hj=>hf j (hj.imp (λx=>by simp[lc,x]) λx=>x);rw[hf i (.inl (by simp[lc])),q1,h1,h2]
theorem yW:∀{c:List jO} {t t':Tr},t.ht=t'.ht→t'.pN→(fill t c).pN→(fill t' c).pN
 |[],_,_,_,h,_=>h
 |.L i k r::c,t,t',h1,h2,h3=>by
  have h3':(fill (.n t i k r) c).pN:=h3;have q:=mX h3';exact yW (c:=c) (t:=.n t i k r) (t':=.n t' i k r) (by simp only[Tr.ht,h1]) ⟨h2,q.2.1,by rw[←h1];exact q.2.2.1,by rw[←h1];exact q.2.2.2⟩ h3'
 |.R q i k::c,t,t',h1,h2,h3=>by
  have h3':(fill (.n q i k t) c).pN:=h3;have g:=mX h3';exact yW (c:=c) (t:=.n q i k t) (t':=.n q i k t') (by simp only[Tr.ht,h1]) ⟨g.1,h2,by rw[←h1];exact g.2.2.1,by rw[←h1];exact g.2.2.2⟩ h3'
theorem GO:∀(d c:List jO),lk (d++c)=lk c++lk d
 |[],c=>by simp[lk]
 |.L i k r::d,c=>by simp only[nK,lk];exact GO d c
 |.R q i k::d,c=>by simp only[nK,lk,GO d c];simp
theorem HF:∀(d c:List jO),rk (d++c)=rk d++rk c
 |[],c=>by simp[rk]
 |.L i k r::d,c=>by simp only[nK,rk,HF d c];simp
 |.R q i k::d,c=>by simp only[nK,rk];exact HF d c
theorem zk:∀(d c:List jO) (t:Tr),fill t (d++c)=fill (fill t d) c
 |[],c,t=>rfl
 |f::d,c,t=>by simp only[nK,fill];exact zk d c _
theorem ta:∀(t:Tr) (c:List jO),(gZ (fX t c).2).reverse++sJ (fX t c).1=(gZ c).reverse++kN t
 |.e,c=>by simp[fX,sJ,kN]
 |.n .e i m r,c=>by simp[fX,sJ,kN]
 |.n (.n a j x b) i m r,c=>by
  rw[fX,ta (.n a j x b)];simp[gZ,kN,jO.i]
theorem MN{rm:Int}(hg:nr l T us fr ks rm)(hR:iN l1 (fill (.n a j m b) c))(hab:a=.e∨b=.e)(ha:(fill (.n a j m b) c).pN)(hids:(fill (.n a j m b) c).cJ=T.cJ)(hlk:Lk l1 5000)(hlen:l1.length=l.length)(hino:lk c++(a.ino++b.ino)++rk c=ks.erase k):
  ∃T',(lP l1 j (Bk a b).rt (gZ c)).2=T'.rt∧nr (lP l1 j (Bk a b).rt (gZ c)).1 T' (us.set j false) (fr++[j]) (ks.erase k) rm:=by
 have hnd0:=hg.nd;have hdT:T.cJ.Nodup:=(jZ.1 hnd0).1;obtain⟨T',s,hs,mv,so,si⟩:=Ms (T:=fill (.n a j m b) c) hR rfl hab ha (by rw[hids];exact hdT);rw[hs]at mv;rw[hs]at so si;have hlen2:=BE (gZ c) l1 j (Bk a b).rt;have e1:T'.ino=ks.erase k:=by rw[mv.ino,so,hino]
 have e2:T'.cJ=lc c++(a.cJ++b.cJ)++rc c:=by rw[mv.cJ,si]
 have e3:T.cJ=lc c++(a.cJ++j::b.cJ)++rc c:=by rw[←hids,lT];rfl
 have hp:(T.cJ++fr).Perm (T'.cJ++(fr++[j])):=by
  rw[e2,e3];have p1:(lc c++(a.cJ++j::b.cJ)++rc c++fr).Perm (j::(lc c++(a.cJ++b.cJ)++rc c++fr)):=by
   have:lc c++(a.cJ++j::b.cJ)++rc c++fr=(lc c++a.cJ)++j::(b.cJ++rc c++fr):=(by simp);rw[this];refine List.perm_middle.trans ?_;simp
  refine p1.trans ?_;rw[←iD];exact(N_ (l₁:=[j])).trans (by simp)
 have hmem:∀p,p∈T.cJ↔p=j∨p∈T'.cJ:=λp=>by
  rw[e2,e3];simp only[dX,dY];constructor
  ·rintro((h|h|h|h)|h)
   ·exact .inr (.inl (.inl h))
   ·exact .inr (.inl (.inr (.inl h)))
   ·exact .inl h
   ·exact .inr (.inl (.inr (.inr h)))
   ·exact .inr (.inr h)
  ·rintro(h|(h|h|h)|h)
   ·exact .inl (.inr (.inr (.inl h)))
   ·exact .inl (.inl h)
   ·exact .inl (.inr (.inl h))
   ·exact .inl (.inr (.inr (.inr h)))
   ·exact .inr h
 have hj:j∉T'.cJ:=by
  have h1:=hp.nodup_iff.1 hnd0;rw[jZ]at h1;exact λhx=>h1.2.2 j hx j (by simp) rfl
 have hul:=hg.ul;have hjl:j<l.length:=hg.kR.lt j ((hmem j).2 (.inl rfl));refine⟨T',mv.root,⟨mv.kR,mv.pN,e1,?_,?_,by rw[rb,hul,hlen2,hlen],hp.nodup_iff.1 hnd0,λp hp=>?_,λp hp=>?_,λp hp=>?_,hg.rr,by rw[hlen2,hlen];exact hg.room⟩⟩
 ·exact hg.wH.sublist He
 ·have hsz:(T'.ino.length:Int)≤5000:=by
   rw[e1];have h1:=hg.small.2.2.2;have h2:=(He (a:=k) (l:=ks)).length_le;omega
  exact SM mv.kR hlen2 hsz hlk λp hp=>mv.fr p (by rw[←mv.cJ];exact hp)
 ·rw[hlen2,hlen]at hp;rcases hg.all p hp with h|h
  ·rcases(hmem p).1 h with h|h
   ·exact .inr (by simp[h])
   ·exact .inl h
  ·exact .inr (by simp[h])
 ·rw[hlen2,hlen];rw[dX,gH]at hp;rcases hp with hp|rfl
  ·exact hg.lt p hp
  ·exact hjl
 ·rw[ya (show j≠p from λe=>hj (e▸hp))];exact hg.on p ((hmem p).2 (.inr hp))
theorem zf(t)(rm:Int)(ks k):bx (P1 (some ⟨t,0⟩) k) (tree rm t ks) (λr=>br (r=(Gw ks k).1) (tree rm t (Gw ks k).2)):=
 bF λw0 S R h=>by
  obtain⟨l,T,us,fr,a0,s,s1,s2,hg,h⟩:=h.tree rm t;obtain⟨b1,b2,b3,b4⟩:=hg.small;have hs:yP T.ino:=by rw[hg.ino];exact hg.wH
  refine aD h λn1 w h=>ae (λc=>(by cases c)) λ_=>ay (x:=k) h rfl ?_;refine aq (Jj t (some ⟨a0,0⟩) s ks.length rm l T hg.kR b1 b2 k) h λq w h=>?_;refine ay (x:=k) h rfl ?_;refine aI (BI t (some ⟨a0,0⟩) s ks.length rm l T hg.kR hs b2 k q (T.rt+1)) h λw h=>?_;unfold Gw;rcases Ir hg k with⟨hk,c,hf,eks,g1,g2⟩|⟨hk,L,i,Rr,c,hf,hfill⟩
  ·rw[aw hk];rw[hf];refine ae (λ_=>?_) λc=>(by simp[Tr.rt]at c);exact au.aH rfl (h.qJ t l T us fr a0 s s1 s2 hg).bq
  rw[aF hk];have eri:((.n L i k Rr,c):Tr×List jO).1.rt=(i:Int):=rfl;rw[hf]at h⊢;rw[eri];have hR:iN l (fill (.n L i k Rr) c):=by rw[hfill];exact hg.kR
  have hA:(fill (.n L i k Rr) c).pN:=by rw[hfill];exact hg.pN
  obtain⟨r1,r2⟩:=kb hR;obtain⟨hin,hnt⟩:=oG r1;have eks:ks=lk c++(L.ino++k::Rr.ino)++rk c:=by rw[←hg.ino,←hfill,ox];rfl
  have hcl:c.length+tV (.n L i k Rr)≤4096:=by have:=CN c (.n L i k Rr);rw[hfill]at this;omega
  have hsrt:=hg.wH;have hknot:k∉lk c++L.ino:=λhx=>by
   rw[eks]at hsrt;have e:lk c++(L.ino++k::Rr.ino)++rk c=(lk c++L.ino)++k::(Rr.ino++rk c):=by simp
   rw[e]at hsrt;have:=(hsrt.BX (m:=k)).1 k hx;rw[sZ]at this;cases this
  have hera:ks.erase k=lk c++L.ino++(Rr.ino++rk c):=by
   have e:lk c++(L.ino++k::Rr.ino)++rk c=(lk c++L.ino)++k::(Rr.ino++rk c):=(by simp);rw[eks,e,J0 hknot]
  have hdT:T.cJ.Nodup:=(jZ.1 hg.nd).1;have eids:T.cJ=lc c++(L.cJ++i::Rr.cJ)++rc c:=by rw[←hfill,lT];rfl
  refine ae (λc=>(by have c:((i:Int)== -1)=true:=c;simp at c)) λ_=>?_
  
  have aK:∀(w:World) (l1:List Nd) (a b:Tr) (j:Nat) (m:Key) (c1:List jO) (q1:Sl),iN l1 (fill (.n a j m b) c1)→(a=.e∨b=.e)→(fill (.n a j m b) c1).pN→(fill (.n a j m b) c1).cJ=T.cJ→Lk l1 5000→l1.length=l.length→
    lk c1++(a.ino++b.ino)++rk c1=ks.erase k→c1.length≤4096→
    au w0 S R w (aQ q1 KI ((gZ c1).reverse++[(j:Int)])^ah t [.ptr (some ⟨a0,0⟩),aX s,aJ (T.rt+1),aJ ks.length,aJ rm]^aQ s KN l1^ah a0 [aX s1,aX s2,aJ rm]^aQ s1 KB us^aQ s2 KI (fr.map λx:Nat=>(x:Int))^bg)→
    (az (some ⟨t,0⟩) λq33=>
 ld [.sl] ⟨q33.b,q33.o+1⟩ λ(x34:Sl)=>
 idx x34 (j:Int) 5 λq35=>
 ld [.int .i64] ⟨q35.b,q35.o+2⟩ λ(x36:Int)=>
 join [.int .i64] (λJ37=>
 ar (x36==(-1:Int)) (
 az (some ⟨t,0⟩) λq39=>
 ld [.sl] ⟨q39.b,q39.o+1⟩ λ(x40:Sl)=>
 idx x40 (j:Int) 5 λq41=>
 ld [.int .i64] ⟨q41.b,q41.o+3⟩ λ(x42:Int)=>
 J37 x42)<|
 J37 x36) λ(y38:Int)=>
 D9 q1 none (some (i64.wrap (((q1.len:Nat):Int)-(1:Int)))) none 1 λs43=>
 call Tryz.prog t_ [.lf (.ptr (some ⟨t,0⟩)),.lf (.sl s43),.lf (.int .i64 (j:Int)),.lf (.int .i64 y38)] [] λ(r44:Unit)=>
 az (some ⟨t,0⟩) λq45=>
 ld [.int .i64] ⟨q45.b,q45.o+3⟩ λ(x46:Int)=>
 az (some ⟨t,0⟩) λq47=>
 st ⟨q47.b,q47.o+3⟩ [aJ (i64.wrap (x46-(1:Int)))]<|
 az (some ⟨t,0⟩) λq48=>
 ld [.ptr] q48 λ(x49:bO)=>
 call Tryz.prog tX [.lf (.ptr x49),.lf (.int .i64 (j:Int))] [.lf (.int .i64)] λ(r50:Int)=>
 λw=>au w0 S R w (br (r50=0) (tree rm t (ks.erase k)))) w:=by
   intro w l1 a b j m c1 q1 hR hab hA hids hlk hlen hino hc1 h;obtain⟨T',hroot,hgood⟩:=MN (us:=us) (fr:=fr) (k:=k) hg hR hab hA hids hlk hlen hino;obtain⟨r1,r2⟩:=kb hR;obtain⟨hin,hnt⟩:=oG r1;have el:Tree.lt l1 (j:Int)=a.rt:=by rw[Tree.lt,hnt]
   have er:bX l1 (j:Int)=b.rt:=(by rw[bX,hnt]);have hlq:=(h.rd (s:=q1)).2;have hjT:j∈T.cJ:=(by rw[←hids,lT];simp[Tr.cJ]);have hjl:=hg.kR.lt j hjT;have hul:=hg.ul;refine ac (aj h rfl (iY (s:=s) h hin (Lh h hin ?_)));rw[el];have h:au w0 S R w (aQ q1 KI ((gZ c1).reverse++[(j:Int)])^(ah t [.ptr (some ⟨a0,0⟩),aX s,aJ (T.rt+1),aJ ks.length,aJ rm]^aQ s KN l1)^ah a0 [aX s1,aX s2,aJ rm]^aQ s1 KB us^aQ s2 KI (fr.map λx:Nat=>(x:Int))^bg):=h.aK;refine aS h (λ_=>aQ q1 KI ((gZ c1).reverse++[(j:Int)])^(ah t [.ptr (some ⟨a0,0⟩),aX s,aJ (T.rt+1),aJ ks.length,aJ rm]^aQ s KN l1)^ah a0 [aX s1,aX s2,aJ rm]^aQ s1 KB us^aQ s2 KI (fr.map λx:Nat=>(x:Int))^bg) (λy:Int=>y=(Bk a b).rt) (λ(y:Int) w hy h=>?_) ?_
   ·rw[hy];have hwl:((gZ c1).reverse++[(j:Int)]).length=c1.length+1:=by simp[gZ]
    have e:i64.wrap (((q1.len:Nat):Int)-1)=(c1.length:Int):=(by rw[hlq,hwl,fu];omega);rw[e];have hcap:=pg (s:=q1) h;refine wD (s:=q1) h 0 c1.length q1.cap rfl rfl rfl rfl (by omega) (by omega) (by omega) (by omega) λs' _ _ h=>?_;have e2:(((gZ c1).reverse++[(j:Int)]).take c1.length).drop 0=(gZ c1).reverse:=by
     have:c1.length=(gZ c1).reverse.length:=(by simp[gZ]);rw[this,Dx];rfl
    have h:=h.eD (s:=s') (K:=KI) e2;have hkid:(Bk a b).rt=-1∨In l1 (Bk a b).rt:=by
     have rin:∀t:Tr,iN l1 t→t.rt=-1∨In l1 t.rt:=λt ht=>by
      cases t with
      |e=>exact .inl rfl
      |n L i k R=>exact .inr (oG ht).1
     cases a with
     |e=>exact rin b r1.2.2
     |n a1 i2 k2 a2=>exact rin _ r1.2.1
    refine bR (A:=ah t [.ptr (some ⟨a0,0⟩),aX s,aJ (T.rt+1),aJ ks.length,aJ rm]^aQ s KN l1) (Q:=aZ s' KI (gZ c1).reverse) (ov t (some ⟨a0,0⟩) s (T.rt+1) ks.length rm l1 s' (gZ c1).reverse j (Bk a b).rt (λx hx=>D0 r2 x (List.mem_reverse.1 hx)) hkid 5000 hlk (by omega) (by simp[gZ];omega) (by omega)) h λ_ w h=>?_;rw[List.reverse_reverse,hroot]at h;refine ac (aj h rfl (ac (be h rfl λw h=>?_)));dsimp only[dE,over]at h;have hkn:ks.length=(ks.erase k).length+1:=by rw[List.length_erase_of_mem hk];have:=List.length_pos_of_mem hk;omega
    have ew:i64.wrap ((ks.length:Int)-1)=((ks.erase k).length:Int):=(by rw[fu];omega);rw[ew]at h;refine ac (aj h rfl ?_);refine aq (MI a0 s1 s2 us (fr.map λx:Nat=>(x:Int)) rm (j:Int) ⟨by omega,by rw[eW];omega⟩ (by rw[eW];exact hg.on j hjT) (by rw[hul];exact hg.room) (by rw[fy];omega)) h λr w h=>?_;obtain⟨s2',h⟩:=h.lS;obtain⟨hr,h⟩:=h.aP;rw[eW]at h;have h:=h.eD (s:=s2') (K:=KI) (ys:=((fr++[j]).map λx:Nat=>(x:Int))) (by simp);exact au.aH hr (h.qJ t _ T' (us.set j false) (fr++[j]) a0 s s1 s2' hgood).bq
   ·refine ae (λc=>?_) λc=>?_
    ·have c:a.rt=-1:=cS;have ha:a=.e:=by
      cases a with
      |e=>rfl
      |n a1 i2 k2 a2=>simp only[Tr.rt]at c;omega
     refine ac (aj h rfl (iY (s:=s) h hin (Oa h hin ?_)));exact⟨by rw[er,ha];rfl,h⟩
    ·have c:a.rt≠-1:=cS;refine⟨?_,h⟩;cases a with
     |e=>exact absurd rfl c
     |n a1 i2 k2 a2=>rfl
  have el:Tree.lt l (i:Int)=L.rt:=by rw[Tree.lt,hnt]
  have er:bX l (i:Int)=Rr.rt:=by rw[bX,hnt]
  have h:au w0 S R w (aQ q KI ((gZ c).reverse++[(i:Int)])^ah t [.ptr (some ⟨a0,0⟩),aX s,aJ (T.rt+1),aJ ks.length,aJ rm]^aQ s KN l^ah a0 [aX s1,aX s2,aJ rm]^aQ s1 KB us^aQ s2 KI (fr.map λx:Nat=>(x:Int))^bg):=(h.eD (s:=q) (K:=KI) (ys:=(gZ c).reverse++[(i:Int)]) rfl).aK;refine⟨_,λ_ _ h=>h,?_⟩;refine aS h (λ_=>aQ q KI ((gZ c).reverse++[(i:Int)])^ah t [.ptr (some ⟨a0,0⟩),aX s,aJ (T.rt+1),aJ ks.length,aJ rm]^aQ s KN l^ah a0 [aX s1,aX s2,aJ rm]^aQ s1 KB us^aQ s2 KI (fr.map λx:Nat=>(x:Int))^bg) (λy:Bool=>y=(nE L&&nE Rr)) (λ(y:Bool) w hy h=>?_) ?_
  ·rw[hy];refine ae (λc2=>?_) λc2=>?_
   ·rw[ej]at c2;have hLn:L≠.e:=λe=>by rw[e]at c2;exact absurd c2.1 (by simp[nE])
    have hRn:Rr≠.e:=λe=>by rw[e]at c2;exact absurd c2.2 (by simp[nE])
    refine ac (aj h rfl (iY (s:=s) h hin (Oa h hin ?_)));rw[er];simp only[tV]at hcl;refine aq (xj t (some ⟨a0,0⟩) s ks.length rm l Rr r1.2.2 (by omega) (T.rt+1)) h λq2 w h=>?_;obtain⟨j,m,b,e1,d,e2,e3,e4⟩:=CX Rr (.R L i k::c) hRn;have hfl:fill (.n .e j m b) d=Rr:=by
     have h1:=ux Rr (.R L i k::c);rw[e1,e2,zk]at h1;obtain⟨j',m',b',e1',d',e2',_⟩:=CX Rr [] hRn;have h2:=ux Rr [];have h3:=ta Rr [];have h4:=ta Rr (.R L i k::c);have key:∀(t:Tr) (c:List jO),fX t c=((fX t []).1,(fX t []).2++c):=by
      have:∀(t:Tr) (c c0:List jO),fX t (c0++c)=((fX t c0).1,(fX t c0).2++c):=by
       intro t
       induction t with
       |e=>intro c c0;rfl
       |n l i x r ihl _=>
        intro c c0;cases l with
        |e=>rfl
        |n a1 i1 x1 b1=>
         simp only[fX];exact ihl c (.L i x r::c0)
      intro t c;have:=this t c [];simpa using this
     have hk2:=key Rr (.R L i k::c);have ed:d=(fX Rr []).2:=by
      have:(fX Rr (.R L i k::c)).2=(fX Rr []).2++(.R L i k::c):=(by rw[hk2]);rw[e2]at this;exact List.append_cancel_right this
     have et:(fX Rr []).1=.n .e j m b:=by
      have:(fX Rr (.R L i k::c)).1=(fX Rr []).1:=(by rw[hk2]);rw[←this,e1]
     rw[ed,←et];exact h2
    have hway:=ta Rr (.R L i k::c);rw[e1,e2]at hway;have hll:kN Rr=(gZ d).reverse++[(j:Int)]:=by
     simp only[sJ,gZ,mA,List.reverse_append,iD]at hway;exact(List.append_cancel_left hway).symm
    have hRino:Rr.ino=m::(b.ino++rk d):=(by rw[←hfl,ox,e3];simp[Tr.ino]);have hRids:Rr.cJ=j::(b.cJ++rc d):=(by rw[←hfl,lT,e4];simp[Tr.cJ]);have hszd:d.length+tV b+1≤tV Rr:=(by have:=CN d (.n .e j m b);rw[hfl]at this;simp only[tV]at this;omega);have hRR:iN l (fill (.n .e j m b) d):=(by rw[hfl];exact r1.2.2);obtain⟨u1,u2⟩:=kb hRR;obtain⟨hjn,hjt⟩:=oG u1;have hlq2:=(h.rd (s:=q2)).2;have hql:q2.len=d.length+1:=(by rw[hlq2,hll];simp[gZ]);have ew:i64.wrap (((q2.len:Nat):Int)-1)=(d.length:Int):=(by rw[hql,fu];omega);rw[ew];have hat:(kN Rr)[((d.length:Nat):Int).toNat]?=some (j:Int):=by
     rw[hll,eW];have:d.length=(gZ d).reverse.length:=by simp[gZ]
     rw[this];simp
    refine bT (s:=q2) h (by omega) (by rw[hll];simp[gZ]) (eE h q2 _ hat rfl ?_);refine aM h λw h=>ac (ac (aj h rfl (aj h rfl (iY (s:=s) h hjn (Xb h hjn (iY (s:=s) h hin ?_))))));have ekj:jL l (j:Int)=m:=by rw[jL,hjt]
    rw[ekj];refine mE h s i 0 (nth l (i:Int)) (m.1,m.2,L.rt,Rr.rt,max L.ht Rr.ht+1) (by have:=oB hin;rwa[eW]at this) (by rw[eW];rfl) (by simp[Ks.mk]) (by simp[Ks.mk]) (by rw[hnt];rfl) λw h=>?_;have hql1:=(h.rd (s:=q2)).2;have h:=h.eD (s:=s) (K:=KN) (ys:=l.set i (m.1,m.2,L.rt,Rr.rt,max L.ht Rr.ht+1)) rfl;refine dF (s:=q) (x:=q2) h rfl (by rw[hll];simp[gZ];omega) λs32 w _ h=>?_;have hil:i<l.length:=hg.kR.lt i (by rw[eids];simp);have hR1:iN (l.set i (m.1,m.2,L.rt,Rr.rt,max L.ht Rr.ht+1)) (fill (.n L i m Rr) c):=by
     have hd2:=hdT;rw[eids]at hd2;simp only[jZ,lD,dX,dY]at hd2;obtain⟨⟨hd3,⟨hd4,⟨hd5,hd6⟩,hd7⟩,hd8⟩,hd9,hd10⟩:=hd2;have ne:∀p,(p∈lc c∨p∈L.cJ∨p∈Rr.cJ∨p∈rc c)→(l.set i (m.1,m.2,L.rt,Rr.rt,max L.ht Rr.ht+1))[p]?=l[p]?:=λp hp=>by
      refine ya (show i≠p from λe=>?_);subst e;rcases hp with hp|hp|hp|hp
      ·exact hd8 i hp i (.inr (.inl rfl)) rfl
      ·exact hd7 i hp i (.inl rfl) rfl
      ·exact hd5 hp
      ·exact hd10 i (.inr (.inr (.inl rfl))) i hp rfl
     refine AB (t:=.n L i k Rr) rfl rfl hR ⟨by rw[sB hil],r1.2.1.frame λp hp=>ne p (.inr (.inl hp)),r1.2.2.frame λp hp=>ne p (.inr (.inr (.inl hp)))⟩ λp hp=>ne p (hp.imp (λx=>x) λx=>.inr (.inr x))
    have hA1:(fill (.n L i m Rr) c).pN:=by
     have hav:(Tr.n L i k Rr).pN:=mX hA;exact yW (t:=.n L i k Rr) rfl ⟨hav.1,hav.2.1,hav.2.2⟩ hA
    have hT1:fill (.n L i m Rr) c=fill (.n .e j m b) (d++.R L i m::c):=(by rw[zk,hfl];rfl);have hlk1:Lk (l.set i (m.1,m.2,L.rt,Rr.rt,max L.ht Rr.ht+1)) 5000:=by
     have hx:=hg.lk (i:Int) hin;simp only[Tree.lt,bX,hh,hnt]at hx;have:=hg.lk.set (C:=5000) (ig _) (i:=(i:Int)) hin (x:=(m.1,m.2,L.rt,Rr.rt,max L.ht Rr.ht+1)) hx.1 hx.2.1 hx.2.2;rwa[eW]at this
    have h:=h.eD (s:=s32) (K:=KI) (ys:=(gZ (d++.R L i m::c)).reverse++[(j:Int)]) (by rw[hll];simp[gZ,jO.i]);refine aK w (l.set i (m.1,m.2,L.rt,Rr.rt,max L.ht Rr.ht+1)) .e b j m (d++.R L i m::c) s32 (by rw[←hT1];exact hR1) (.inl rfl) (by rw[←hT1];exact hA1) ?_ hlk1 rb ?_ (by simp;omega) h.aK
    ·rw[←hT1,lT,eids];rfl
    ·rw[hera,GO,HF,e3,hRino];simp[lk,rk,Tr.ino]
   ·have hab:L=.e∨Rr=.e:=by
     cases L with
     |e=>exact .inl rfl
     |n l1 i1 k1 l2=>cases Rr with
      |e=>exact .inr rfl
      |n l3 i3 k3 l4=>cases c2
    simp only[tV]at hcl;exact aK w l L Rr i k c q hR hab hA (by rw[hfill]) hg.lk rfl (by rw[hera];simp) (by omega) h
  ·refine ac (aj h rfl (iY (s:=s) h hin (Lh h hin ?_)));rw[el];refine ae (λc2=>?_) λc2=>?_
   ·have c2:L.rt≠-1:=gJ;refine ac (aj h rfl (iY (s:=s) h hin (Oa h hin ?_)));rw[er];refine⟨?_,h⟩;cases L with
    |e=>exact absurd rfl c2
    |n l1 i1 k1 l2=>
     cases Rr with
     |e=>simp[nE,Tr.rt]
     |n l3 i3 k3 l4=>simp[nE,Tr.rt]
   ·have c2:L.rt=-1:=gJ;refine⟨?_,h⟩;cases L with
    |e=>rfl
    |n l1 i1 k1 l2=>simp only[Tr.rt]at c2;omega
end mV

namespace fh
open _root_.Go.X.Tree Bz Ei jE lM mV
def spine:Tr→List Tr
 |.e=>[]
 |.n l i k r=>.n l i k r::spine l
def Rv:Tr→List Key
 |.e=>[]
 |.n _ _ k r=>k::r.ino
def uM(st:List Tr):List Key:=st.reverse.flatMap Rv
theorem ti:∀t:Tr,uM (spine t)=t.ino
 |.e=>rfl
 |.n l i k r=>by
  have:=ti l;simp only[spine,uM,List.reverse_cons,List.flatMap_append,yb,List.flatMap_nil,Tr.ino,Rv]at*;rw[this];simp
theorem I0(a b):uM (a++b)=uM b++uM a:=by simp[uM]
def D6(st:List Tr):List Int:=st.map Tr.rt
theorem tm:∀t:Tr,D6 (spine t)=kN t
 |.e=>rfl
 |.n l i k r=>by
  have:=tm l;simp only[D6,spine,ka,kN,Tr.rt]at*;rw[this]
theorem yG:∀(t:Tr),∀x∈spine t,∃l i k r,x=.n l i k r
 |.e,x,h=>by simp[spine]at h
 |.n l i k r,x,h=>by
  simp only[spine,dY]at h;rcases h with rfl|h
  ·exact⟨l,i,k,r,rfl⟩
  ·exact yG l x h
theorem xI:∀{t:Tr},iN l t→∀x∈spine t,iN l x
 |.e,_,x,h=>by simp[spine]at h
 |.n a i k r,h,x,hx=>by
  simp only[spine,dY]at hx;rcases hx with rfl|hx
  ·exact h
  ·exact xI h.2.1 x hx
theorem IH(st)(h:∀x∈st,∃l i k r,x=.n l i k r):st.length≤(uM st).length:=by
 induction st with
 |nil=>simp
 |cons x st ih=>
  have:=ih λy hy=>h y (by simp[hy]);obtain⟨l,i,k,r,rfl⟩:=h x (by simp);have e:uM (.n l i k r::st)=uM st++(k::r.ino):=by simp[uM,Rv]
  rw[e];simp;omega
def vL(n:Nat):Fv:=.mk (.func jR) [] [V1.enc (.lf (.ptr (some ⟨n,0⟩)))]
theorem jh(p):bx (P0 p) bg (λf=>ex λn=>br (f=vL n) (ah n [.ptr p])):=
 bF λw S R h=>by
  refine aD h λn1 w h=>?_;exact au.gI n1 (au.aH rfl h.bq)
theorem DP:∀t:Tr,tV t=t.ino.length
 |.e=>rfl
 |.n l i k r=>by simp[tV,Tr.ino,DP l,DP r];omega
theorem lN(n t)(rm:Int)(ks):Iter Tryz.prog (vL n) (ah n [.ptr (some ⟨t,0⟩)]^tree rm t ks) [.agg [.int .u64,.int .u64]] ks:=by
 intro y I D hy;refine wF.g (f:=jR) (args:=[.lf (.fn y)]) (caps:=[.lf (.ptr (some ⟨n,0⟩))]) (bF (c:=XK y ⟨n,0⟩) λw0 S R h=>?_);obtain⟨l,T,us,fr,a,s,s1,s2,hg,h⟩:=h.tree rm t;obtain⟨b1,b2,b3,b4⟩:=hg.small;have hino:=hg.ino;refine aj h rfl ?_;refine aI (AE t (some ⟨a,0⟩) s ks.length rm l T hg.kR b1) h λw h=>?_;refine ae (λc=>?_) λc=>?_
 ·have c:T.rt=-1:=cS;have hT:T=.e:=by
   cases T with
   |e=>rfl
   |n L i k R=>simp only[Tr.rt]at c;omega
  have hk:ks.length=0:=by rw[←hino,hT];rfl
  have h:=(h.qJ t l T us fr a s s1 s2 hg);have h:au _ _ _ _ (I 0^ah n [.ptr (some ⟨t,0⟩)]^tree rm t ks):=h.aK;rw[hk];exact(h.vg D).aK
 refine aM h λw h=>aj h rfl (aj h rfl ?_);refine aq (AE t (some ⟨a,0⟩) s ks.length rm l T hg.kR b1) h λr w h=>?_;obtain⟨hr,h⟩:=h.aP;rw[hr];refine aN h rfl ?_;refine aq (xj t (some ⟨a,0⟩) s ks.length rm l T hg.kR b2 (T.rt+1)) h λq w h=>?_;have h:=h.eD (s:=q) (K:=KI) (ys:=D6 (spine T)) (tm T).symm;have h:au w0 S R w (aQ q KI (D6 (spine T))^(ah t [.ptr (some ⟨a,0⟩),aX s,aJ (T.rt+1),aJ ks.length,aJ rm]^aQ s KN l)^ah a [aX s1,aX s2,aJ rm]^aQ s1 KB us^aQ s2 KI (fr.map λx:Nat=>(x:Int))^ah n [.ptr (some ⟨t,0⟩)]^I 0):=h.aK;refine fV (λ(q:Sl) (x:Nat×List Tr)=>aQ q KI (D6 x.2)^(ah t [.ptr (some ⟨a,0⟩),aX s,aJ (T.rt+1),aJ ks.length,aJ rm]^aQ s KN l)^ah a [aX s1,aX s2,aJ rm]^aQ s1 KB us^aQ s2 KI (fr.map λx:Nat=>(x:Int))^ah n [.ptr (some ⟨t,0⟩)]^I x.1)
  (λ(_:Sl) (x:Nat×List Tr)=>ks.drop x.1=uM x.2∧(∀z∈x.2,∃l i k r,z=.n l i k r)∧(∀z∈x.2,iN l z)∧x.1≤ks.length) (λ(_:Sl) (x:Nat×List Tr)=>ks.length-x.1) (0,spine T) h ⟨by rw[ti,hino];rfl,yG T,xI hg.kR,iW _⟩ ?_
 rintro K (q:Sl) ⟨i,st⟩ w ⟨hd,hn,hrep,hle⟩ h hK;dsimp only at hd hn hrep hle h hK⊢;have hlq:=(h.rd (s:=q)).2;have hst:=IH st hn;rw[←hd,nL]at hst;have hrl:(D6 st).length=st.length:=by simp[D6]
 refine ae (λc=>?_) λc=>?_
 ·have c:((q.len:Nat):Int)>0:=bZ c;have hne:st≠[]:=λe=>by
   have e2:(D6 st).length=0:=(dm (λz=>(D6 z).length) e).trans rfl;omega
  obtain⟨f,z,hfz⟩:∃f z,st=f++[z]:=⟨st.dropLast,st.getLast hne,(NR hne).symm⟩;obtain⟨L,j,m,Rr,hz⟩:=hn z (by rw[hfz];simp);have hRz:iN l (.n L j m Rr):=by rw[←hz];exact hrep z (by rw[hfz];simp)
  obtain⟨hin,hnt⟩:=oG hRz;have er:bX l (j:Int)=Rr.rt:=by rw[bX,hnt]
  have ek:jL l (j:Int)=m:=by rw[jL,hnt]
  have hfl:st.length=f.length+1:=by rw[hfz];simp
  have hrs:D6 st=D6 f++[(j:Int)]:=by rw[hfz,hz];simp[D6,Tr.rt]
  have hrf:(D6 f).length=f.length:=by simp[D6]
  have e:i64.wrap (((q.len:Nat):Int)-1)=(f.length:Int):=by rw[fu];omega
  rw[e];refine bT (s:=q) h (by omega) (by omega) (eE h q ((f.length:Nat):Int).toNat (y:=(j:Int)) (by rw[hrs,eW,←hrf];simp) rfl ?_);have hcap:=pg (s:=q) h;refine wD (s:=q) h 0 f.length q.cap rfl rfl rfl rfl (by omega) (by omega) (by omega) (by omega) λs11 _ _ h=>?_;have h:=h.eD (s:=s11) (K:=KI) (ys:=D6 f) (by rw[hrs,←hrf,Dx];rfl);have hks:ks.drop i=m::(Rr.ino++uM f):=by rw[hd,hfz,I0,hz];simp[uM,Rv]
  have hki:ks[i]?=some m:=by
   have:=dm (λz=>z[0]?) hks;simpa using this
  have hil:i<ks.length:=(ie.1 hki).1;refine aj h rfl (ac (aj h rfl (iY (s:=s) h hin (Xb h hin ?_))));rw[ek];have ht:Ba Tryz.prog y [.agg (Ks.mk [.int .u64,.int .u64] m)] [.lf .bool] (I i) (λc=>cond c (I (i+1)) D):=hy i m hki;refine qU ht h λc w h=>?_;cases c with
  |false=>
   refine ae (λc=>?_) λc=>by cases c
   have h:au _ _ _ _ (D^_):=h;have h:=(h.qJ t l T us fr a s s1 s2 hg);have h:au _ _ _ _ (D^ah n [.ptr (some ⟨t,0⟩)]^tree rm t ks):=h.aK;exact(h.yu (I ks.length)).aK
  |true=>
   refine ae (λc=>by cases c) λc=>?_;have h:au _ _ _ _ (I (i+1)^_):=h;refine aM h λw h=>aj h rfl (aj h rfl (ac (aj h rfl (iY (s:=s) h hin (Oa h hin ?_)))));rw[er];have hsz:tV Rr≤4096:=by
    have h1:=dm List.length hks;rw[nL]at h1;have h2:=DP Rr;simp at h1;omega
   refine aq (xj t (some ⟨a,0⟩) s ks.length rm l Rr hRz.2.2 hsz (T.rt+1)) h λq2 w h=>?_;have hl2:(kN Rr).length≤4096:=by
    have h1:=IH (spine Rr) (yG Rr);rw[ti]at h1;have h2:(kN Rr).length=(spine Rr).length:=(by rw[←tm];simp[D6]);have h3:=DP Rr;omega
   refine dF (s:=s11) (x:=q2) h rfl (by omega) λs25 w _ h=>?_;have h:=h.eD (s:=s25) (K:=KI) (ys:=D6 (f++spine Rr)) (by rw[←tm];simp[D6]);refine hK s25 (i+1,f++spine Rr) w ⟨?_,λz hz=>?_,λz hz=>?_,by show i+1≤_;omega⟩ h.aK (by show _-(i+1)<_-i;omega)
   ·show ks.drop (i+1)=uM (f++spine Rr);rw[I0,ti];have:=dm (λz=>z.drop 1) hks;simpa using this
   ·rcases dX.1 hz with hz|hz
    ·exact hn z (by rw[hfz];simp[hz])
    ·exact yG Rr z hz
   ·rcases dX.1 hz with hz|hz
    ·exact hrep z (by rw[hfz];simp[hz])
    ·exact xI hRz.2.2 z hz
 ·have c:¬((q.len:Nat):Int)>0:=cd c;have hst0:st=[]:=nX (by omega);rw[hst0]at hd;have hi:i=ks.length:=by
   have:=dm List.length hd;rw[nL]at this;simp[uM]at this;omega
  rw[hi]at h;have h:=(h.qJ t l T us fr a s s1 s2 hg);have h:au _ _ _ _ (I ks.length^ah n [.ptr (some ⟨t,0⟩)]^tree rm t ks):=h.aK;exact(h.vg D).aK
def lq(ks:List Key):Key×Bool:=match ks with
 |[]=>((0,0),false)
 |k::_=>(k,true)
theorem C3(t)(rm:Int)(ks):bx (TK (some ⟨t,0⟩)) (tree rm t ks) (λr=>br (r=lq ks) (tree rm t ks)):=
 Tg λw S R h=>by
  refine aD h λn1 w h=>?_;refine aD h λn2 w h=>?_;refine aS h (λ_=>ah n1 [aC (0:Int),aC (0:Int)]^ah n2 [a_ false]^tree rm t ks) (λ_=>ks=[]) (λy w hv h=>?_) ?_
  ·refine aA h (by rfl) λw h=>aA h (by rfl) λw h=>?_;refine ay (b:=n1) (x:=((0,0):Int×Int)) h rfl (aj h rfl ?_);refine aV h λw h=>?_;exact au.aH (by rw[hv];rfl) h.aK
  ·refine aq (jh _) (h.le (aG _)) λf w h=>?_;obtain⟨n,h⟩:=h.lS;obtain⟨hf,h⟩:=h.aP;rw[hf];have h:=(h.take (ah n1 [aC (0:Int),aC (0:Int)]^ah n2 [a_ false])).je (p:=(0:Nat)=0) rfl;refine pr (lN n t rm ks) (λi=>br (i=0) (ah n1 [aC (0:Int),aC (0:Int)]^ah n2 [a_ false])) (λj=>br (j=1) (ah n1 (Ks.mk KR (lq ks).1)^ah n2 [a_ (lq ks).2])) h ?_ ?_ ?_
   ·rintro i (x:Key) hx w S R BX next jump rdy bsy hmid hnext hjump h
    refine aD h λn10 w h=>aA h (by rfl) λw h=>?_;refine hmid h λw h=>?_;have h:=h.take (br (i=0) (ah n1 [aC (0:Int),aC (0:Int)]^ah n2 [a_ false]));obtain⟨hi,h⟩:=h.aP;have hv:lq ks=(x,true):=by
     rw[hi]at hx;cases ks with
     |nil=>cases hx
     |cons y l=>cases hx;rfl
    rw[hv]at hjump;refine ay (b:=n10) (x:=x) h rfl ?_;refine aA h (by rfl) λw h=>aA h (by rfl) λw h=>?_;have h:=(h.take (ah n1 (Ks.mk KR x)^ah n2 [a_ true])).je (p:=1=1) rfl;exact hjump 1 (by decide) h
   ·intro w h;have h:=h.take (br (ks.length=0) (ah n1 [aC (0:Int),aC (0:Int)]^ah n2 [a_ false]));obtain⟨hno,h⟩:=h.aP;exact⟨nX hno,h.aK⟩
   ·intro j w hj h;have h:=h.take (br (j=1) (ah n1 (Ks.mk KR (lq ks).1)^ah n2 [a_ (lq ks).2]));obtain⟨hj1,h⟩:=h.aP;rw[hj1];refine ay (b:=n1) (x:=(lq ks).1) h rfl (aj h rfl ?_);refine aV h λw h=>?_;exact au.aH rfl h.aK
end fh

namespace lJ
open bK f_ _root_.Go.X.Tree jE lM
abbrev Sg:=Int×Int×Int×Int×Bool
abbrev Cf:=Int×Int×Int×Int×Int×Int×Bool×Int×Int
abbrev KC:Ks:=[.int .i64,.int .i64,.int .i64,.int .i64,.int .u64,.int .u64,.bool,.int .i64,.int .i64]
abbrev KS:Ks:=[.int .i64,.int .u64,.int .i64,.int .u64,.bool]
abbrev cQ(c:Cf):Int:=c.1
abbrev cF(c:Cf):Int:=c.2.1
abbrev cL(c:Cf):Int:=c.2.2.1
abbrev cW(c:Cf):Int:=c.2.2.2.1
abbrev cH(c:Cf):Int:=c.2.2.2.2.1
abbrev cR(c:Cf):Int:=c.2.2.2.2.2.1
abbrev cD(c:Cf):Bool:=c.2.2.2.2.2.2.1
abbrev jU(c:Cf):Int:=c.2.2.2.2.2.2.2.1
abbrev jz(c:Cf):Int:=c.2.2.2.2.2.2.2.2
abbrev sK(s:Sg):Int:=s.1
abbrev RR(s:Sg):Int:=s.2.1
abbrev lI(s:Sg):Int:=s.2.2.1
abbrev uZ(s:Sg):Int:=s.2.2.2.1
abbrev sAg(s:Sg):Bool:=s.2.2.2.2
def may(c:Cf):Bool:=decide (100≤cQ c∧cQ c≤65536)&&(decide (100≤cF c∧cF c≤65536)&&(decide (1≤cL c∧cL c≤512)&&(decide (1≤cW c∧cW c≤512)&&(decide (cH c≤4611686018427387904)&&(decide (1≤jU c∧jU c≤1073741824)&&decide (100≤jz c∧jz c≤9000))))))
structure yq(c:Cf):Prop where
 q:100≤cQ c∧cQ c≤65536
 f:100≤cF c∧cF c≤65536
 l:1≤cL c∧cL c≤512
 w:1≤cW c∧cW c≤512
 h:0≤cH c∧cH c≤4611686018427387904
 r:U (cR c)
 cap:1≤jU c∧jU c≤1073741824
 bs:100≤jz c∧jz c≤9000
theorem GS(h:may c=true)(h0:0≤cH c)(hr:U (cR c)):yq c:=by
 simp only[may,ej,j_]at h;exact⟨h.1,h.2.1,h.2.2.1,h.2.2.2.1,⟨h0,h.2.2.2.2.1⟩,hr,h.2.2.2.2.2.1,h.2.2.2.2.2.2⟩
structure Fl where
 cr:Int
 nx:Int
 si:Int
 sg:List Sg
structure Qm where
 c:Cf
 fl:Nat→Option Fl
 lv:LV
 ks:List Key
 n:Int
structure mN(s:Sg):Prop where
 fr:U (RR s)
 ln:1≤lI s∧lI s≤65536
 st:U (uZ s)
structure YS(i:Nat)(f:Fl):Prop where
 cr:-65536<f.cr∧f.cr≤65536
 nx:U f.nx
 si:U f.si
 sg:∀s∈f.sg,sK s=i∧mN s
def cC(f:Fl):Int:=match f.sg with
 |[]=>f.nx
 |s::_=>if uZ s>f.nx then uZ s else f.nx
def yi(x:Option Fl):Int:=match x with
 |none=>0
 |some f=>f.sg.length
def FY(fl:Nat→Option Fl):Nat→Int
 |0=>0
 |n+1=>FY fl n+yi (fl n)
def nS(v:LV)(i:Nat):Prop:=(i:Int)∈v.1++v.2
structure iM(v:Qm):Prop where
 cf:yq v.c
 lv:wG v.lv
 th:∀i,nS v.lv i→∃f,v.fl i=some f
 fl:∀i f,v.fl i=some f→i<8∧YS i f
 ks:∀k,k∈v.ks↔∃(i:Nat) (f:Fl),v.fl i=some f∧f.sg≠[]∧¬nS v.lv i∧k=(cC f,(i:Int))
 wH:yP v.ks
 n:v.n=FY v.fl 8
 le:v.n≤512
def jK(fl:Nat→Option Fl)(i:Nat)(x:Option Fl):Nat→Option Fl:=λj=>if j=i then x else fl j
theorem co(fl i x):jK fl i x i=x:=by simp[jK]
theorem ec(fl x)(h:j≠i):jK fl i x j=fl j:=by simp[jK,h]
theorem Gu(x):0≤yi x:=by unfold yi;split<;>omega
theorem DQ(fl):∀n,0≤FY fl n
 |0=>ig 0
 |n+1=>by have:=DQ fl n;have:=Gu (fl n);simp only[FY];omega
theorem O1(fl i x):∀n,FY (jK fl i x) n=FY fl n+if i<n then yi x-yi (fl i)else 0
 |0=>by simp[FY]
 |n+1=>by
  simp only[FY,O1 fl i x n];by_cases h:n=i
  ·subst h;rw[co];simp;omega
  ·rw[ec _ _ h];by_cases h2:i<n
   ·rw[aF h2,aF (by omega)];omega
   ·rw[aw h2,aw (by omega)];omega
theorem O0(fl):∀{n i:Nat},i<n→yi (fl i)≤FY fl n
 |n+1,i,h=>by
  have h1:=Gu (fl n);have h2:=DQ fl n;simp only[FY];by_cases e:i=n
  ·subst e;omega
  ·have:=O0 fl (n:=n) (i:=i) (by omega);omega
theorem iM.len(h:iM v)(hf:v.fl i=some f):(f.sg.length:Int)≤v.n∧f.sg.length≤512:=by
 have h1:=O0 v.fl (h.fl i f hf).1;have h2:=h.n;have h3:=h.le;rw[hf]at h1;have h1:(f.sg.length:Int)≤FY v.fl 8:=h1;omega
theorem iM.n0(h:iM v):0≤v.n:=by rw[h.n];exact DQ _ _
def fo(v:Qm)(i:Nat):Int:=if bY v.lv i≠0 then bY v.lv i else match v.fl i with
 |none=>0
 |some f=>if f.sg=[]then 0 else 3
theorem oD{v:LV}{i:Nat}:bY v i≠0↔nS v i:=by
 rw[ne_eq,lX];unfold nS;exact B7
theorem zX:fo v i=0↔¬nS v.lv i∧∀f,v.fl i=some f→f.sg=[]:=by
 unfold fo;split
 ·rename_i h;have h2:=oD.1 h;exact⟨λe=>absurd e h,λe=>absurd h2 e.1⟩
 ·rename_i h;have h2:¬nS v.lv i:=λe=>h (oD.2 e);cases hf:v.fl i with
  |none=>exact⟨λ_=>⟨h2,λf hh=>by cases hh⟩,λ_=>rfl⟩
  |some f=>
   simp only;split
   ·rename_i h3;exact⟨λ_=>⟨h2,λg hg=>by cases hg;exact h3⟩,λ_=>rfl⟩
   ·rename_i h3;exact⟨λe=>(by cases e),λe=>absurd (e.2 f rfl) h3⟩
theorem vU:fo v i=3↔¬nS v.lv i∧∃f,v.fl i=some f∧f.sg≠[]:=by
 unfold fo;split
 ·rename_i h;have h2:=oD.1 h;refine⟨λe=>?_,λe=>absurd h2 e.1⟩;unfold bY at e;split at e
  ·cases e
  ·split at e<;>cases e
 ·rename_i h;have h2:¬nS v.lv i:=λe=>h (oD.2 e);cases hf:v.fl i with
  |none=>exact⟨λe=>(by cases e),λ⟨_,f,hh,_⟩=>(by cases hh)⟩
  |some f=>
   simp only;split
   ·rename_i h3;exact⟨λe=>(by cases e),λ⟨_,g,hg,h4⟩=>by cases hg;exact absurd h3 h4⟩
   ·rename_i h3;exact⟨λ_=>⟨h2,f,rfl,h3⟩,λ_=>rfl⟩
def idle(v:Qm)(i:Nat)(rq af:Int):Bool:=match v.fl i with
 |none=>false
 |some f=>decide (fo v i=0)&&decide (bH f.si rq≤af)
abbrev bM(v:Qm)(af:Int):Qm:={v with fl:=λi=>if idle v i 3000000000 af then none else v.fl i}
theorem qg{rq af:Int}(h:idle v i rq af=true):∃f,v.fl i=some f∧f.sg=[]∧¬nS v.lv i:=by
 unfold idle at h;split at h
 ·cases h
 ·rename_i f hf;rw[ej,j_]at h;have:=zX.1 h.1;exact⟨f,hf,this.2 f hf,this.1⟩
theorem Jc:∀n,(∀i,i<n→yi (fl i)=yi (gl i))→FY fl n=FY gl n
 |0,_=>rfl
 |n+1,h=>by simp only[FY,Jc n λi hi=>h i (by omega),h n (by omega)]
theorem iM.collect{v:Qm}(h:iM v)(af:Int):iM (bM v af) where
 cf:=h.cf
 lv:=h.lv
 th i hi:=by
  obtain⟨f,hf⟩:=h.th i hi;refine⟨f,?_⟩;show(if _ then _ else _)=_;rw[aw,hf];intro e;obtain⟨_,_,_,h3⟩:=qg e;exact h3 hi
 fl i f hf:=by
  have hf:(if idle v i 3000000000 af then none else v.fl i)=some f:=hf;split at hf
  ·cases hf
  ·exact h.fl i f hf
 ks k:=by
  rw[show(bM v af).ks=v.ks from rfl,h.ks];constructor
  ·rintro⟨i,f,h1,h2,h3,h4⟩;refine⟨i,f,?_,h2,h3,h4⟩;show(if _ then _ else _)=_;rw[aw,h1];intro e;obtain⟨g,hg,h5,_⟩:=qg e;rw[h1]at hg;cases hg;exact h2 h5
  ·rintro⟨i,f,h1,h2,h3,h4⟩;have h1:(if idle v i 3000000000 af then none else v.fl i)=some f:=h1;split at h1
   ·cases h1
   ·exact⟨i,f,h1,h2,h3,h4⟩
 wH:=h.wH
 n:=by
  show v.n=_;rw[h.n];refine Jc 8 λi _=>?_;show _=yi (if _ then _ else _);split
  ·rename_i e;obtain⟨f,hf,h5,_⟩:=qg e;rw[hf];simp[yi,h5]
  ·rfl
 le:=h.le
def iQ(v:Qm)(s:Sg)(af:Int):Int:=
 if v.n≥cL v.c then 2
 else if(∃f,v.fl (sK s).toNat=some f∧(f.sg.length:Int)≥cW v.c)then 3
 else if uZ s>bH af (cH v.c)∧cD v.c=true then 4 else 0
def drawn(v:Qm)(s:Sg)(af:Int):Sg:=(sK s,RR s,lI s,(if bH af (cH v.c)<uZ s then bH af (cH v.c)else uZ s),sAg s)
def fO(v:Qm)(i:Nat)(af:Int):Fl:=match v.fl i with
 |none=>⟨cF v.c,0,0,[]⟩
 |some f=>if fo v i≠0 then f else{f with cr:=if idle v i 40000000 af then(if cQ v.c>f.cr then cQ v.c else f.cr)else f.cr,si:=0}
def kK(v:Qm)(i:Nat):LV:=if fo v i≠0 then v.lv else(kE v.lv i true).2
abbrev eS(v:Qm)(i:Nat)(af:Int):Qm:={v with fl:=jK v.fl i (some (fO v i af)),lv:=kK v i}
def kS(v:Qm)(i:Nat)(s:Sg):Qm:=match v.fl i with
 |none=>v
 |some f=>{v with fl:=jK v.fl i (some {f with sg:=f.sg++[s]}),n:=v.n+1}
def fF(v:Qm)(s:Sg)(af:Int):(Int×Int)×Qm:=
 if ¬(0≤sK s∧sK s≤7)then((0,8),v)
 else if ¬(1≤lI s∧lI s≤65536)then((0,1),v)
 else if iQ (bM v af) s af=0 then((0,0),kS (eS (bM v af) (sK s).toNat af) (sK s).toNat (drawn v s af))
 else((iQ (bM v af) s af,0),bM v af)
theorem G3(hi:i<8)(h:¬nS v i):(kE v i true)=(0,(v.1++[(i:Int)],v.2)):=by
 have hp:bY v i=0:=by
  cases hh:decide (bY v i=0)with
  |true=>exact bZ hh
  |false=>exact absurd (oD.1 (cd hh)) h
 rw[kE,aw (by omega),aw (by rw[hp];simp),aF rfl]
theorem RE(hi:i<8)(h:¬nS v i):(kE v i false)=(0,(v.1,v.2++[(i:Int)])):=by
 have hp:bY v i=0:=by
  cases hh:decide (bY v i=0)with
  |true=>exact bZ hh
  |false=>exact absurd (oD.1 (cd hh)) h
 rw[kE,aw (by omega),aw (by rw[hp];simp),aw (by simp)]
theorem CR(hi:i<8):nS (kK v i) j↔nS v.lv j∨(j=i∧fo v i=0):=by
 unfold kK;split
 ·rename_i h;exact⟨.inl,λe=>e.elim id λe=>absurd e.2 h⟩
 ·rename_i h;have h0:fo v i=0:=by omega
  have hn:=(zX.1 h0).1;rw[G3 hi hn];unfold nS;simp only[dX,gH];constructor
  ·rintro((h|h)|h)
   ·exact .inl (.inl h)
   ·exact .inr ⟨by omega,h0⟩
   ·exact .inl (.inr h)
  ·rintro((h|h)|⟨rfl,_⟩)
   ·exact .inl (.inl h)
   ·exact .inr h
   ·exact .inl (.inr rfl)
theorem Nu(h:wG v.lv):wG (kK v i):=by
 unfold kK;split
 ·exact h
 ·exact h.push _ _
theorem AY(v i)(af:Int):(fO v i af).sg=match v.fl i with|none=>[]|some f=>f.sg:=by
 unfold fO;cases v.fl i with
 |none=>rfl
 |some f=>simp only;split<;>rfl
theorem Pn(h:iM v)(i)(af:Int):YS i (fO v i af):=by
 unfold fO;have hc:=h.cf;cases hf:v.fl i with
 |none=>exact⟨by have:=hc.f;simp only;omega,bh 0,bh 0,λs hs=>by cases hs⟩
 |some f=>
  have hk:=(h.fl i f hf).2;simp only;split
  ·exact hk
  ·refine⟨?_,hk.nx,bh 0,hk.sg⟩;have h1:=hk.cr;have h2:=hc.q;simp only
   (repeat' split)<;>omega
theorem add_eq(v i)(af:Int)(s):kS (eS v i af) i s={v with fl:=jK v.fl i (some {fO v i af with sg:=(fO v i af).sg++[s]}),lv:=kK v i,n:=v.n+1}:=by
 unfold kS eS;simp only[co]
 congr 1
 funext j
 by_cases h:j=i
 ·rw[h,co,co]
 ·rw[ec _ _ h,ec _ _ h,ec _ _ h]
theorem FV(h:f.sg≠[]):cC {f with sg:=f.sg++[s]}=cC f:=by
 unfold cC;cases hs:f.sg with
 |nil=>exact absurd hs h
 |cons x l=>rfl
theorem iM.dE{v:Qm}(h:iM v){i:Nat}(hi:i<8)(x:Option Fl)(lv':LV)(ks':List Key)(n':Int)(hlv:wG lv')(hin:∀j,j≠i→(nS lv' j↔nS v.lv j))(hxi:nS lv' i→∃f,x=some f)(hx:∀f,x=some f→YS i f)
  (hks:∀k,k∈ks'↔(k∈v.ks∧k.2≠(i:Int))∨∃f,x=some f∧f.sg≠[]∧¬nS lv' i∧k=(cC f,(i:Int))) (hsrt:yP ks') (hn:n'=v.n+yi x-yi (v.fl i)) (hle:n'≤512):
  iM {v with fl:=jK v.fl i x,lv:=lv',ks:=ks',n:=n'}:=by
 refine⟨h.cf,hlv,λj hj=>?_,λj f hf=>?_,λk=>?_,hsrt,?_,hle⟩
 ·have hj:nS lv' j:=hj;show ∃f,jK v.fl i x j=some f;by_cases e:j=i
  ·subst e;obtain⟨f,hf⟩:=hxi hj;exact⟨f,(co _ _ _).trans hf⟩
  ·obtain⟨f,hf⟩:=h.th j ((hin j e).1 hj);exact⟨f,(ec _ _ e).trans hf⟩
 ·have hf:jK v.fl i x j=some f:=hf;by_cases e:j=i
  ·subst e;rw[co]at hf;exact⟨hi,hx f hf⟩
  ·rw[ec _ _ e]at hf;exact h.fl j f hf
 ·show k∈ks'↔∃(j:Nat) (f:Fl),jK v.fl i x j=some f∧f.sg≠[]∧¬nS lv' j∧k=(cC f,(j:Int));rw[hks,h.ks];constructor
  ·rintro(⟨⟨j,f,h1,h2,h3,h4⟩,h5⟩|⟨f,h1,h2,h3,h4⟩)
   ·have e:j≠i:=λe=>h5 (by rw[h4,e]);exact⟨j,f,(ec _ _ e).trans h1,h2,λhh=>h3 ((hin j e).1 hh),h4⟩
   ·exact⟨i,f,(co _ _ _).trans h1,h2,h3,h4⟩
  ·rintro⟨j,f,h1,h2,h3,h4⟩;by_cases e:j=i
   ·subst e;rw[co]at h1;exact .inr ⟨f,h1,h2,h3,h4⟩
   ·rw[ec _ _ e]at h1;exact .inl ⟨⟨j,f,h1,h2,λhh=>h3 ((hin j e).2 hh),h4⟩,by rw[h4];intro hh;exact e (by have hh:(j:Int)=i:=hh;omega)⟩
 ·show n'=FY (jK v.fl i x) 8;rw[O1,aF hi,hn,h.n];omega
theorem iM.key{v:Qm}(h:iM v){i:Nat}{k:Key}(hk:k∈v.ks)(e:k.2=(i:Int)):∃f,v.fl i=some f∧f.sg≠[]∧¬nS v.lv i∧k=(cC f,(i:Int)):=by
 obtain⟨j,f,h1,h2,h3,h4⟩:=(h.ks k).1 hk;have:j=i:=by rw[h4]at e;have e:(j:Int)=i:=e;omega
 subst this;exact⟨f,h1,h2,h3,h4⟩
theorem iM.same{v:Qm}(h:iM v){i:Nat}{x:Option Fl}{lv':LV}(hs:∀t,(∃f,v.fl i=some f∧f.sg≠[]∧¬nS v.lv i∧t=cC f)↔∃f,x=some f∧f.sg≠[]∧¬nS lv' i∧t=cC f)(k:Key):
  k∈v.ks↔(k∈v.ks∧k.2≠(i:Int))∨∃f,x=some f∧f.sg≠[]∧¬nS lv' i∧k=(cC f,(i:Int)):=by
 constructor
 ·intro hk;by_cases e:k.2=(i:Int)
  ·right;obtain⟨f,h1,h2,h3,h4⟩:=h.key hk e;obtain⟨g,g1,g2,g3,g4⟩:=(hs (cC f)).1 ⟨f,h1,h2,h3,rfl⟩;exact⟨g,g1,g2,g3,by rw[h4,g4]⟩
  ·exact .inl ⟨hk,e⟩
 ·rintro(hk|⟨f,h1,h2,h3,h4⟩)
  ·exact hk.1
  ·obtain⟨g,g1,g2,g3,g4⟩:=(hs (cC f)).2 ⟨f,h1,h2,h3,rfl⟩;rw[h.ks];exact⟨i,g,g1,g2,g3,by rw[h4,g4]⟩
theorem iM.accept{v:Qm}(h:iM v){i:Nat}(hi:i<8){s:Sg}(hk:sK s=i)(hs:mN s)(af:Int)(hn:v.n<512):iM (kS (eS v i af) i s):=by
 rw[add_eq];have hw:=Pn h i af;have hsg:=AY v i af;refine h.dE hi _ _ _ _ (Nu h.lv) (λj e=>?_) (λ_=>⟨_,rfl⟩) (λf hf=>?_) (h.same λt=>?_) h.wH ?_ (by omega)
 ·rw[CR hi];exact⟨λhh=>hh.elim id λhh=>absurd hh.1 e,.inl⟩
 ·cases hf;refine⟨hw.cr,hw.nx,hw.si,λx hx=>?_⟩;rw[dX,gH]at hx;rcases hx with hx|rfl
  ·exact hw.sg x hx
  ·exact⟨hk,hs⟩
 ·constructor
  ·rintro⟨f,h1,h2,h3,h4⟩;have hp:fo v i=3:=vU.2 ⟨h3,f,h1,h2⟩;have hwf:fO v i af=f:=by unfold fO;rw[h1];simp[hp]
   refine⟨{f with sg:=f.sg++[s]},by rw[hwf],by simp,λhh=>?_,by rw[FV h2];exact h4⟩;rcases(CR hi).1 hh with hh|hh
   ·exact h3 hh
   ·rw[hp]at hh;cases hh.2
  ·rintro⟨f,h1,h2,h3,h4⟩;have h3:¬(nS v.lv i∨(i=i∧fo v i=0)):=λhh=>h3 ((CR hi).2 hh);have h5:fo v i≠0:=λe=>h3 (.inr ⟨rfl,e⟩);have h6:¬nS v.lv i:=λe=>h3 (.inl e);have h7:∃g,v.fl i=some g∧g.sg≠[]:=Da λhh=>h5 (zX.2 ⟨h6,λg hg=>Da λh8=>hh ⟨g,hg,h8⟩⟩);obtain⟨g,hg,hg2⟩:=h7;have hwf:fO v i af=g:=by unfold fO;rw[hg];simp[h5]
   rw[hwf]at h1;cases h1;exact⟨g,hg,hg2,h6,by rw[h4,FV hg2]⟩
 ·have:yi (some {fO v i af with sg:=(fO v i af).sg++[s]})=yi (v.fl i)+1:=by
   show(((fO v i af).sg++[s]).length:Int)=_;rw[hsg];cases v.fl i with
   |none=>rfl
   |some f=>simp[yi]
  rw[this];omega
theorem EF(h:iM v){af:Int}(hs:U (RR s)∧U (uZ s))(hl:1≤lI s∧lI s≤65536)(hn:U af):mN (drawn v s af):=by
 have hH:U (cH v.c):=by have:=h.cf.h;unfold U;omega
 exact⟨hs.1,hl,by show U (if _ then _ else _);split;exact oT hn hH;exact hs.2⟩
theorem iM.enq(h:iM v){af:Int}(hs:U (RR s)∧U (uZ s))(hn:U af):iM (fF v s af).2:=by
 unfold fF;split
 ·exact h
 ·split
  ·exact h
  ·rename_i h1 h2;have h1:0≤sK s∧sK s≤7:=B7.1 h1;have h2:1≤lI s∧lI s≤65536:=B7.1 h2;split
   ·rename_i h3;have hc:=h.collect af;refine hc.accept (by omega) (by show sK s=_;omega) (EF h hs h2 hn) af ?_;unfold iQ at h3;split at h3
    ·cases h3
    ·rename_i h4;have:=hc.cf.l;omega
   ·exact h.collect af
def iZ(v:Qm)(af:Int):List Key:=v.ks.takeWhile λk=>decide (k.1≤af)
abbrev mW(v:Qm)(af:Int):Qm:={v with ks:=v.ks.dropWhile (λk=>decide (k.1≤af)),lv:=(v.lv.1,v.lv.2++(iZ v af).map Prod.snd)}
def dZ(size aY:Int):Int:=if size<1∨aY=18446744073709551615 then 0 else if 1000000000<qI size 1000000000 aY then 1000000000 else qI size 1000000000 aY
def gq(a b:Int):Int:=if(if a=0 then 18446744073709551615 else a)>(if b=0 then 18446744073709551615 else b)then(if b=0 then 18446744073709551615 else b)else(if a=0 then 18446744073709551615 else a)
def gg(rates:List Int)(i:Nat):Int:=match rates[i]? with
 |some r=>r
 |none=>18446744073709551615
abbrev dP(v:Qm)(i:Nat)(f:Fl)(s:Sg)(af aY:Int):Qm:=
 {v with fl:=jK v.fl i (some {f with cr:=f.cr-lI s,nx:=bH af (dZ (lI s) (gq aY (cR v.c))),sg:=f.sg.tail}),n:=v.n-1}
def jW(af:Int)(rates:List Int):Nat→Qm→Option Sg×Qm
 |0,v=>(none,v)
 |k+1,v=>match v.lv.1++v.lv.2,v.fl (bP v.lv).1.toNat with
  |[],_=>(none,v)
  |_::_,none=>(none,v)
  |_::_,some f=>
   if f.cr≤0 then jW af rates k {v with fl:=jK v.fl (bP v.lv).1.toNat (some {f with cr:=f.cr+cQ v.c}),lv:=(eO v.lv).2}
   else match f.sg with
    |[]=>if(bP v.lv).2.1=true∧v.lv.2≠[]then jW af rates k {v with lv:=(eO v.lv).2}
     else jW af rates k {v with lv:=(cj v.lv).2,fl:=jK v.fl (bP v.lv).1.toNat (some {f with si:=af})}
    |s::_=>if cC f>af then jW af rates k {v with lv:=(cj v.lv).2,ks:=lZ v.ks (cC f,(bP v.lv).1)}
     else(some s,dP v (bP v.lv).1.toNat f s af (gg rates (bP v.lv).1.toNat))
def XU(x:Option Fl):Nat:=match x with
 |none=>0
 |some f=>(1-f.cr).toNat
def mu(v:Qm):Nat:=((v.lv.1++v.lv.2).map λx=>XU (v.fl x.toNat)+1).sum+v.lv.1.length
def gU(v:Qm)(af:Int)(rates:List Int):Option Sg×Qm:=jW af rates (mu (mW v af)+1) (mW v af)
def cz(v:Qm)(i:Int):List Sg×Qm:=
 if ¬(0≤i∧i≤7)then([],v)else match v.fl i.toNat with
  |none=>([],v)
  |some f=>(f.sg,{v with fl:=jK v.fl i.toNat none,lv:=dI v.lv i,ks:=if fo v i.toNat=3 then v.ks.erase (cC f,i)else v.ks,n:=v.n-f.sg.length})
def pI(v:Qm)(c:Cf):Int×Qm:=if may c then(0,{v with c:=c})else(13,v)
abbrev C4(c:Cf):Qm:=⟨c,λ_=>none,([],[]),[],0⟩
theorem iM.new{c:Cf}(h:yq c):iM (C4 c) where
 cf:=h
 lv:=⟨by simp[C4],by simp[C4]⟩
 th i hi:=by simp[C4,nS]at hi
 fl i f hf:=by cases hf
 ks k:=by
  constructor
  ·intro hk;cases hk
  ·rintro⟨i,f,h1,_⟩;cases h1
 wH:=List.Pairwise.nil
 n:=rfl
 le:=by show(0:Int)≤512;omega
theorem iM.set(h:iM v)(hc:0≤cH c∧U (cR c)):iM (pI v c).2:=by
 unfold pI;split
 ·rename_i hm;have h2:=GS hm hc.1 hc.2;exact{h with cf:=h2}
 ·exact h
theorem K2{ks:List Key}{af:Int}:∀{k:Key},k∈ks.takeWhile (λk=>decide (k.1≤af))→k∈ks∧k.1≤af:=by
 intro k hk;exact⟨List.takeWhile_subset _ hk,by
  induction ks with
  |nil=>simp at hk
  |cons x l ih=>
   rw[Ap]at hk;split at hk
   ·rename_i hx;rw[dY]at hk;rcases hk with rfl|hk
    ·simpa using hx
    ·exact ih hk
   ·simp at hk⟩
theorem key_inj(h:iM v)(ha:a∈v.ks)(hb:b∈v.ks)(e:a.2=b.2):a=b:=by
 obtain⟨i,f,h1,_,_,h4⟩:=(h.ks a).1 ha;obtain⟨j,g,g1,_,_,g4⟩:=(h.ks b).1 hb;rw[h4,g4]at e;have e:(i:Int)=j:=e;have e:i=j:=by omega
 subst e;rw[h1]at g1;cases g1;rw[h4,g4]
theorem Kj{ks:List Key}(hs:ks.Nodup)(hi:∀a∈ks,∀b∈ks,a.2=b.2→a=b):(ks.map Prod.snd).Nodup:=by
 induction ks with
 |nil=>exact List.nodup_nil
 |cons x l ih=>
  rw[lD]at hs;rw[ka,lD];refine⟨λhx=>?_,ih hs.2 λa ha b hb=>hi a (by simp[ha]) b (by simp[hb])⟩;obtain⟨y,hy,hxy⟩:=ma.1 hx;have:=hi y (by simp[hy]) x (by simp) hxy;exact hs.1 (this▸hy)
theorem iM.keys(h:iM v):(v.ks.map Prod.snd).Nodup∧∀x∈v.ks.map Prod.snd,(0≤x∧x<8)∧x∉v.lv.1++v.lv.2:=by
 refine⟨Kj h.wH.nodup λa ha b hb=>key_inj h ha hb,λx hx=>?_⟩;obtain⟨k,hk,rfl⟩:=ma.1 hx;obtain⟨i,f,h1,_,h3,h4⟩:=(h.ks k).1 hk;rw[h4];have:=(h.fl i f h1).1;exact⟨by show 0≤(i:Int)∧(i:Int)<8;omega,h3⟩
theorem iM.due(h:iM v)(af:Int):iM (mW v af):=by
 have hk:=h.keys;have hsplit:v.ks=iZ v af++v.ks.dropWhile (λk=>decide (k.1≤af)):=Aj.symm;have hkm:=hk.1;rw[hsplit,mA,jZ]at hkm;have hin:∀i:Nat,nS (mW v af).lv i↔nS v.lv i∨(i:Int)∈(iZ v af).map Prod.snd:=λi=>by
  show(i:Int)∈v.lv.1++(v.lv.2++_)↔_;unfold nS;rw[dX,dX,dX,or_assoc]
 refine⟨h.cf,?_,λi hi=>?_,h.fl,λk=>?_,?_,h.n,h.le⟩
 ·obtain⟨hd,hr⟩:=h.lv;constructor
  ·show(v.lv.1++(v.lv.2++(iZ v af).map Prod.snd)).Nodup;rw[←iD,jZ];refine⟨hd,hkm.1,λa ha b hb e=>?_⟩;have:=(hk.2 b (by rw[hsplit,mA,dX];exact .inl hb)).2;exact this (e▸ha)
  ·intro x hx;have hx:x∈v.lv.1++(v.lv.2++(iZ v af).map Prod.snd):=hx;rw[←iD,dX]at hx;rcases hx with hx|hx
   ·exact hr x hx
   ·exact(hk.2 x (by rw[hsplit,mA,dX];exact .inl hx)).1
 ·rcases(hin i).1 hi with hi|hi
  ·exact h.th i hi
  ·obtain⟨k,hk2,he⟩:=ma.1 hi;obtain⟨f,hf,_⟩:=h.key (K2 hk2).1 he;exact⟨f,hf⟩
 ·show k∈v.ks.dropWhile _↔∃(i:Nat) (f:Fl),v.fl i=some f∧_;constructor
  ·intro hkd;have hkk:k∈v.ks:=by rw[hsplit,dX];exact .inr hkd
   obtain⟨i,f,h1,h2,h3,h4⟩:=(h.ks k).1 hkk;refine⟨i,f,h1,h2,λhh=>?_,h4⟩;rcases(hin i).1 hh with hh|hh
   ·exact h3 hh
   ·exact hkm.2.2 _ hh _ (ma.2 ⟨k,hkd,by rw[h4]⟩) rfl
  ·rintro⟨i,f,h1,h2,h3,h4⟩;have hkk:k∈v.ks:=(h.ks k).2 ⟨i,f,h1,h2,λhh=>h3 ((hin i).2 (.inl hh)),h4⟩;rw[hsplit,dX]at hkk;rcases hkk with hkk|hkk
   ·exact absurd ((hin i).2 (.inr (ma.2 ⟨k,hkk,by rw[h4]⟩))) h3
   ·exact hkk
 ·have:=h.wH;rw[hsplit]at this;exact(z_.1 this).2.1
theorem yx(hv:wG v)(hh:(bP v).2.2=true)(j):nS (eO v).2 j↔nS v j:=by
 unfold eO;rw[aF hh];unfold nS dI;simp only[dX,tS,gH,j_];have hm:=kp hh;rw[dX]at hm;constructor
 ·rintro(h|h|h)
  ·exact .inl h.1
  ·exact .inr h.1
  ·rw[h];exact hm
 ·intro h;by_cases e:(j:Int)=(bP v).1
  ·exact .inr (.inr e)
  ·rcases h with h|h
   ·exact .inl ⟨h,e⟩
   ·exact .inr (.inl ⟨h,e⟩)
theorem Iz(hh:(bP v).2.2=true)(j):nS (cj v).2 j↔nS v j∧(j:Int)≠(bP v).1:=by
 unfold cj;rw[aF hh];unfold nS dI;simp only[dX,tS,j_];exact⟨λh=>h.elim (λh=>⟨.inl h.1,h.2⟩) λh=>⟨.inr h.1,h.2⟩,λh=>h.1.elim (λx=>.inl ⟨x,h.2⟩) λx=>.inr ⟨x,h.2⟩⟩
section
variable {v:Qm} {i:Nat} {f:Fl}
structure tx(v:Qm)(i:Nat)(f:Fl):Prop where
 ok:iM v
 hd:(bP v.lv).1=(i:Int)
 is:(bP v.lv).2.2=true
 fl:v.fl i=some f
theorem tx.lt(h:tx v i f):i<8:=(h.ok.fl i f h.fl).1
theorem tx.inl(h:tx v i f):nS v.lv i:=by
 have:=kp h.is;rw[h.hd]at this;exact this
theorem tx.no(h:tx v i f)(hk:k∈v.ks):k.2≠(i:Int):=λe=>by
 obtain⟨_,_,_,h3,_⟩:=h.ok.key hk e;exact h3 h.inl
theorem tx.w8(h:tx v i f)(hc:f.cr≤0):iM {v with fl:=jK v.fl i (some {f with cr:=f.cr+cQ v.c}),lv:=(eO v.lv).2}:=by
 have hf:=(h.ok.fl i f h.fl).2;have hq:=h.ok.cf.q;have h1:=hf.cr;refine h.ok.dE h.lt _ _ _ v.n h.ok.lv.back (λj _=>yx h.ok.lv h.is j) (λ_=>⟨_,rfl⟩) (λg hg=>?_) (h.ok.same λt=>?_) h.ok.wH (by rw[h.fl];simp[yi]) h.ok.le
 ·cases hg;exact⟨by show-65536<f.cr+cQ v.c∧f.cr+cQ v.c≤65536;omega,hf.nx,hf.si,hf.sg⟩
 ·have a1:¬∃g,v.fl i=some g∧g.sg≠[]∧¬nS v.lv i∧t=cC g:=λ⟨_,_,_,h3,_⟩=>h3 h.inl;exact⟨λhh=>absurd hh a1,λ⟨_,_,_,h3,_⟩=>absurd ((yx h.ok.lv h.is i).2 h.inl) h3⟩
theorem tx.back(h:tx v i f):iM {v with lv:=(eO v.lv).2}:=by
 have:=h.ok.dE h.lt (v.fl i) (eO v.lv).2 v.ks v.n h.ok.lv.back (λj _=>yx h.ok.lv h.is j) (λ_=>⟨_,h.fl⟩) (λg hg=>(h.ok.fl i g hg).2) (h.ok.same λt=>?_) h.ok.wH (by omega) h.ok.le
 ·have e:jK v.fl i (v.fl i)=v.fl:=by
   funext j
   by_cases e:j=i
   ·rw[e,co]
   ·rw[ec _ _ e]
  rw[e]at this;exact this
 ·have a1:¬∃g,v.fl i=some g∧g.sg≠[]∧¬nS v.lv i∧t=cC g:=λ⟨_,_,_,h3,_⟩=>h3 h.inl;exact⟨λhh=>absurd hh a1,λ⟨_,_,_,h3,_⟩=>absurd ((yx h.ok.lv h.is i).2 h.inl) h3⟩
theorem tx.yA(h:tx v i f)(hs:f.sg=[]){af:Int}(hn:U af):iM {v with lv:=(cj v.lv).2,fl:=jK v.fl i (some {f with si:=af})}:=by
 have hf:=(h.ok.fl i f h.fl).2;have hd:=Iz (v:=v.lv) h.is;refine h.ok.dE h.lt (some {f with si:=af}) (cj v.lv).2 v.ks v.n h.ok.lv.drop (λj e=>?_) (λ_=>⟨_,rfl⟩) (λg hg=>?_) (h.ok.same λt=>?_) h.ok.wH (by rw[h.fl];simp[yi]) h.ok.le
 ·rw[hd j,h.hd];exact⟨λx=>x.1,λx=>⟨x,λe2=>e (by omega)⟩⟩
 ·cases hg;exact⟨hf.cr,hf.nx,hn,hf.sg⟩
 ·have a1:¬∃g,v.fl i=some g∧g.sg≠[]∧¬nS v.lv i∧t=cC g:=λ⟨_,_,_,h3,_⟩=>h3 h.inl;exact⟨λhh=>absurd hh a1,λ⟨g,hg,h3,_⟩=>by cases hg;exact absurd hs h3⟩
theorem Fp(ks k x):x∈lZ ks k↔x=k∨x∈ks:=by
 unfold lZ;have e:=Aj (p:=λm=>lF m k) (l:=ks);have e2:x∈ks↔x∈ks.takeWhile (λm=>lF m k)∨x∈ks.dropWhile (λm=>lF m k):=by rw[←dX,e]
 rw[e2,dX,dY];exact⟨λh=>h.elim (λh=>.inr (.inl h)) λh=>h.elim .inl λh=>.inr (.inr h),λh=>h.elim (λh=>.inr (.inl h)) λh=>h.elim .inl λh=>.inr (.inr h)⟩
theorem RZ(hs:yP ks)(hk:k∉ks):yP (lZ ks k):=by
 obtain⟨a,b,hab,h1,h2⟩:∃a b,ks=a++b∧(∀m∈a,lF m k=true)∧∀m∈b,lF k m=true:=by
  refine⟨ks.takeWhile (λm=>lF m k),ks.dropWhile (λm=>lF m k),Aj.symm,?_,?_⟩
  ·intro m hm;clear hs hk
   induction ks with
   |nil=>simp at hm
   |cons x l ih=>
    rw[Ap]at hm;split at hm
    ·rw[dY]at hm;rcases hm with rfl|hm
     ·assumption
     ·exact ih hm
    ·simp at hm
  ·intro m hm;have e:=Aj (p:=λm=>lF m k) (l:=ks);cases hd:ks.dropWhile (λm=>lF m k)with
   |nil=>rw[hd]at hm;cases hm
   |cons y l=>
    have hy:lF y k=false:=by
     have:=List.head?_dropWhile_not (λm=>lF m k) ks;rw[hd]at this;simpa using this
    have hyk:y≠k:=λe2=>hk (by rw[←e,dX,hd,←e2];simp);have hky:lF k y=true:=IE hy hyk;rw[hd]at hm;rw[dY]at hm;rcases hm with rfl|hm
    ·exact hky
    ·have hs2:=hs;rw[←e,hd]at hs2;have:=(ra.1 (z_.1 hs2).2.1).1 m hm;exact xh hky this
 rw[hab,C9 h1 h2];rw[hab]at hs;exact hs.put h1 h2
theorem tx.wait(h:tx v i f)(hs:f.sg≠[]):iM {v with lv:=(cj v.lv).2,ks:=lZ v.ks (cC f,(i:Int))}∧(cC f,(i:Int))∉v.ks∧v.ks.length<8:=by
 have hd:=Iz (v:=v.lv) h.is;have hno:(cC f,(i:Int))∉v.ks:=λhk=>h.no hk rfl;refine⟨?_,hno,?_⟩
 ·have hni:¬nS (cj v.lv).2 i:=λe=>((hd i).1 e).2 h.hd.symm;have:=h.ok.dE h.lt (v.fl i) (cj v.lv).2 (lZ v.ks (cC f,(i:Int))) v.n h.ok.lv.drop (λj e=>?_) (λe=>absurd e hni) (λg hg=>(h.ok.fl i g hg).2) (λk=>?_) (RZ h.ok.wH hno) (by omega) h.ok.le
  ·have e:jK v.fl i (v.fl i)=v.fl:=by
    funext j
    by_cases e:j=i
    ·rw[e,co]
    ·rw[ec _ _ e]
   rw[e]at this;exact this
  ·rw[hd j,h.hd];exact⟨λx=>x.1,λx=>⟨x,λe2=>e (by omega)⟩⟩
  ·rw[Fp];constructor
   ·rintro(rfl|hk)
    ·exact .inr ⟨f,h.fl,hs,hni,rfl⟩
    ·exact .inl ⟨hk,h.no hk⟩
   ·rintro(hk|⟨g,hg,_,_,e⟩)
    ·exact .inr hk.1
    ·rw[h.fl]at hg;cases hg;exact .inl e
 ·have hk:=h.ok.keys;have h9:((i:Int)::v.ks.map Prod.snd).Nodup:=lD.2 ⟨λhx=>(hk.2 _ hx).2 h.inl,hk.1⟩;have:=qj 8 _ h9 λx hx=>by
   rcases dY.1 hx with rfl|hx
   ·have:=h.lt;exact⟨by omega,by show(i:Int)<((8:Nat):Int);omega⟩
   ·exact(hk.2 x hx).1
  simp at this;omega
theorem tx.Yx(h:tx v i f)(hs:f.sg=s::l)(hc:f.cr>0){af aY:Int}(hn:U af)(hd:U (dZ (lI s) (gq aY (cR v.c)))):iM (dP v i f s af aY):=by
 have hf:=(h.ok.fl i f h.fl).2;have hsg:=hf.sg s (by rw[hs];simp);have h1:=hf.cr;have h2:=hsg.2.ln;refine h.ok.dE h.lt _ v.lv v.ks (v.n-1) h.ok.lv (λ_ _=>mC) (λ_=>⟨_,rfl⟩) (λg hg=>?_) (h.ok.same λt=>?_) h.ok.wH (by rw[h.fl,hs];simp[yi,hs];omega) (by have:=h.ok.le;omega)
 ·cases hg;refine⟨by show-65536<f.cr-lI s∧f.cr-lI s≤65536;omega,oT hn hd,hf.si,λx hx=>hf.sg x (by rw[hs];rw[hs]at hx;exact mz _ hx)⟩
 ·have a1:¬∃g,v.fl i=some g∧g.sg≠[]∧¬nS v.lv i∧t=cC g:=λ⟨_,_,_,h3,_⟩=>h3 h.inl;exact⟨λhh=>absurd hh a1,λ⟨_,_,_,h3,_⟩=>absurd h.inl h3⟩
end
theorem iM.close(h:iM v)(i:Int):iM (cz v i).2:=by
 unfold cz;split
 ·exact h
 ·rename_i hi;have hi:0≤i∧i≤7:=B7.1 hi;have hi8:i.toNat<8:=by omega
  have hin:((i.toNat:Nat):Int)=i:=by omega
  split
  ·exact h
  ·rename_i f hf;have hout:∀j:Nat,nS (dI v.lv i) j↔nS v.lv j∧(j:Int)≠i:=λj=>by
    unfold nS dI;simp only[dX,tS,j_];exact⟨λh=>h.elim (λh=>⟨.inl h.1,h.2⟩) λh=>⟨.inr h.1,h.2⟩,λh=>h.1.elim (λx=>.inl ⟨x,h.2⟩) λx=>.inr ⟨x,h.2⟩⟩
   have hlen:=h.len hf;refine h.dE hi8 none (dI v.lv i) _ _ (h.lv.out i) (λj e=>?_) (λe=>?_) (λg hg=>by cases hg) (λk=>?_) ?_ (by rw[hf];simp[yi]) (by have:=h.le;omega)
   ·rw[hout j];exact⟨λx=>x.1,λx=>⟨x,λe2=>e (by omega)⟩⟩
   ·exact absurd hin (((hout _).1 e).2)
   ·rw[hin];by_cases hp:fo v i.toNat=3
    ·rw[aF hp];obtain⟨h3,g,hg,hg2⟩:=vU.1 hp;rw[hf]at hg;cases hg;rw[h.wH.nodup.mem_erase_iff];constructor
     ·rintro⟨h4,h5⟩;refine .inl ⟨h5,λe=>?_⟩;obtain⟨g,hg,_,_,e2⟩:=h.key (i:=i.toNat) h5 (by rw[e,hin]);rw[hf]at hg;cases hg;exact h4 (by rw[e2,hin])
     ·rintro(⟨h4,h5⟩|⟨g,hg,_⟩)
      ·exact⟨λe=>h5 (by rw[e]),h4⟩
      ·cases hg
    ·rw[aw hp];constructor
     ·intro hk;refine .inl ⟨hk,λe=>?_⟩;obtain⟨g,hg,h2,h3,_⟩:=h.key (i:=i.toNat) hk (by rw[e,hin]);exact hp (vU.2 ⟨h3,g,hg,h2⟩)
     ·rintro(hk|⟨g,hg,_⟩)
      ·exact hk.1
      ·cases hg
   ·split
    ·exact h.wH.sublist He
    ·exact h.wH
end lJ

namespace mh
open bK bp f_ _root_.Go.X.Tree jE lM mV fh lJ
theorem w9(n r:Int)(hn:n<9223372036854775808)(hr:U r):bx (Be n r) bg (λx=>br (x=dZ n r) bg):=
 bF λw0 S R h=>by
  unfold dZ;refine ae (λc=>?_) λc=>?_
  ·have c:n<1∨r=18446744073709551615:=cS;rw[aF c];exact au.aH rfl h
  have c:¬(n<1∨r=18446744073709551615):=cS;rw[aw c,iy (n:=n)];refine aq (uD n 1000000000 r ⟨by omega,by omega⟩ (bh _) hr) h λx w h=>?_;obtain⟨hx,h⟩:=h.aP;rw[hx];exact au.aH rfl h.h_
theorem uK(n r:Int)(hn:n<9223372036854775808)(hr:U r):bx (LS n r) bg (λx=>br (x=dZ n r) bg):=
 bF λw0 S R h=>by
  unfold dZ;refine ae (λc=>?_) λc=>?_
  ·have c:n<1∨r=18446744073709551615:=cS;rw[aF c];exact au.aH rfl h
  have c:¬(n<1∨r=18446744073709551615):=cS;rw[aw c,iy (n:=n)];refine aq (nY n 1000000000 r ⟨by omega,by omega⟩ (bh _) hr) h λx w h=>?_;obtain⟨hx,h⟩:=h.aP;rw[hx];exact au.aH rfl h.h_
theorem oU{n r:Int}(hn:n<9223372036854775808)(hr:U r):U (dZ n r):=by
 unfold dZ;split
 ·exact bh 0
 ·rename_i c;have h:=yR (a:=n) (b:=1000000000) (c:=r) ⟨by omega,by omega⟩ (bh _) hr;split
  ·exact bh _
  ·exact h
theorem Cq{a b:Int}(ha:U a)(hb:U b):U (gq a b):=by unfold gq U at*;(repeat' split)<;>omega
theorem M8(a b:Int)(ha:U a)(hb:U b):bx (T5 a b) bg (λx=>br (x=gq a b) bg):=
 bF λw0 S R h=>by
  have e1:i64.wrap ((0:Int)+1)=1:=rfl;have e2:i64.wrap ((1:Int)+1)=2:=rfl;obtain⟨a',ha'⟩:∃a',a'=if a=0 then 18446744073709551615 else a:=⟨_,rfl⟩
  refine cZ (λ_:Int×Int=>bg) (λy:Int×Int=>y=(18446744073709551615,0)∨y=(a',1)∨y=(gq a b,2)) (λy:Int×Int=>(2-y.2).toNat) h (.inl rfl) ?_;rintro(y:Int×Int) w hy h;rcases hy with rfl|rfl|rfl
  ·refine ae (λ_=>?_) λc=>(by cases c);refine⟨by decide,(a:Int),rfl,?_⟩;dsimp only;rw[e1];refine ae (λc=>?_) λc=>?_
   ·have c:a=0:=cS;rw[aF c]at ha';exact⟨⟨.inr (.inl (by rw[ha'])),h⟩,by show(2-(1:Int)).toNat<(2-(0:Int)).toNat;omega⟩
   ·have c:¬a=0:=cS;rw[aw c]at ha';refine⟨⟨.inr (.inl ?_),h⟩,by show(2-(1:Int)).toNat<(2-(0:Int)).toNat;omega⟩;unfold U at ha;rw[ha'];refine sA ?_ rfl;show(if a<_ then a else _)=a;split<;>omega
  ·refine ae (λ_=>?_) λc=>(by cases c);refine⟨⟨by show(0:Int)≤1;decide,by show(1:Int)<2;decide⟩,(b:Int),rfl,?_⟩;dsimp only;rw[e2];unfold U at ha hb;refine ae (λc=>?_) λc=>?_
   ·have c:b=0:=cS;refine⟨⟨.inr (.inr ?_),h⟩,by show(2-(2:Int)).toNat<(2-(1:Int)).toNat;omega⟩;refine sA ?_ rfl;show a'=gq a b;unfold gq;rw[←ha',aF c];have:a'≤18446744073709551615:=(by rw[ha'];split<;>omega);split<;>omega
   ·have c:¬b=0:=cS;refine⟨⟨.inr (.inr ?_),h⟩,by show(2-(2:Int)).toNat<(2-(1:Int)).toNat;omega⟩;refine sA ?_ rfl;show(if b<a' then b else a')=gq a b;unfold gq;rw[←ha',aw c]
  ·refine ae (λc=>(by cases c)) λ_=>?_;exact au.aH rfl h
theorem Kv(a b:Int)(ha:U a)(hb:U b):bx (T2 a b) bg (λx=>br (x=gq a b) bg):=
 bF λw0 S R h=>by
  unfold U at ha hb;refine ae (λc=>?_) λc=>?_
  ·have c:a=0:=cS;refine ae (λc2=>?_) λc2=>?_
   ·have c2:b=0:=gJ;refine au.aH ?_ h;show(_:Int)=gq a b;unfold gq;rw[aF c,aF c2]
   ·have c2:¬b=0:=gJ;refine au.aH ?_ h;show(if b<_ then b else _)=gq a b;unfold gq;rw[aF c,aw c2]
  ·have c:¬a=0:=cS;refine ae (λc2=>?_) λc2=>?_
   ·have c2:b=0:=gJ;refine au.aH ?_ h;show(if _<a then _ else a)=gq a b;unfold gq;rw[aw c,aF c2]
   ·have c2:¬b=0:=gJ;refine au.aH ?_ h;show(if b<a then b else a)=gq a b;unfold gq;rw[aw c,aw c2]
theorem jm(v lo hi:Int):bx (Mk v lo hi) bg (λr=>br (r=decide (lo≤v∧v≤hi)) bg):=
 bF λw0 S R h=>by
  refine au.aH ?_ h;rw[jH];simp
theorem nT(c):bx (Y2 c) bg (λr=>br (r=may c) bg):=
 bF λw0 S R h=>by
  unfold may;refine aD h λn1 w h=>aj h rfl (aI (jm _ _ _) h λw h=>?_);refine ae (λc1=>?_) λc1=>?_
  case _=>
   refine aj h rfl (aI (jm _ _ _) h λw h=>?_);refine ae (λc2=>?_) λc2=>?_
   case _=>
    refine aj h rfl (aI (jm _ _ _) h λw h=>?_);refine ae (λc3=>?_) λc3=>?_
    case _=>
     refine aj h rfl (aI (jm _ _ _) h λw h=>?_);refine ae (λc4=>?_) λc4=>?_
     case _=>
      refine aj h rfl (ae (λc5=>?_) λc5=>?_)
      case _=>
       refine aj h rfl (aI (jm _ _ _) h λw h=>?_);refine ae (λc6=>?_) λc6=>?_
       case _=>
        refine aj h rfl (aI (jm _ _ _) h λw h=>?_);refine au.aH ?_ h.h_;rw[c1,c2,c3,c4,c5,c6];rfl
       case _=>exact au.aH (by rw[c1,c2,c3,c4,c5,c6];rfl) h.h_
      case _=>exact au.aH (by rw[c1,c2,c3,c4,c5];rfl) h.h_
     case _=>exact au.aH (by rw[c1,c2,c3,c4];rfl) h.h_
    case _=>exact au.aH (by rw[c1,c2,c3];rfl) h.h_
   case _=>exact au.aH (by rw[c1,c2];rfl) h.h_
  case _=>exact au.aH (by rw[c1];rfl) h.h_
theorem aao(h:au w0 S0 R0 w F)(s K)(hl:s.len=0)(hc:s.cap=0):au w0 S0 R0 w (aQ s K []^F):=by
 have h:=h.le ((aG F).trans (aU _ _));obtain⟨S,R,_,_,h2⟩:=h.part;exact h2 w (aQ s K []) (λ_=>False) (λ_=>False) (ju.refl _ _) ⟨⟨.inl ⟨hl,hc,rfl⟩,hl⟩,λk=>⟨λh=>h.elim,λ⟨q,_,_,hq⟩=>absurd hc hq⟩,λ_ h=>h⟩ (λ_ h=>h.elim) (λ_ h=>h.elim)
theorem JR(s xs)(hl:xs.length≤4294967296):bx (Uc s) (bg^aZ s KS xs) (λr=>aQ r KS xs):=
 bF λw0 S R h=>by
  have h:au w0 S R w0 (aZ s KS xs^bg):=h.aK;have hs:=(h.rd (s:=s)).2;have hn:=(h.rd (s:=s)).1.2.1;refine ae (λc=>?_) λ_=>?_
  ·have hp:s.p=none:=by
    simp only[Sl.isNil,ej,NY]at c;exact c.1
   have hx:xs=[]:=nX (by rw[←hs];exact hn hp);rw[hx];exact(h.nil KS).bq
  ·refine aD h λn1 w h=>?_;have h:=aao h ⟨some ⟨n1,0⟩,0,0⟩ KS rfl rfl;refine dF (s:=⟨some ⟨n1,0⟩,0,0⟩) (x:=s) h rfl (by simpa using hl) λs2 w _ h=>?_;exact h.bq
def eB(f:Nat→SP):Nat→SP
 |0=>bg
 |n+1=>f n^eB f n
def tI(f:Nat→SP)(i:Nat):Nat→SP:=λj=>if j=i then bg else f j
theorem iw:∀n,(∀j,j<n→f j=g j)→eB f n=eB g n
 |0,_=>rfl
 |n+1,h=>by rw[eB,eB,h n (by omega),iw n λj hj=>h j (by omega)]
theorem MA(p):Le (bg^p) p:=by
 rintro w S R ⟨S1,R1,S2,R2,h1,h2,hS,hR,_⟩;have e1:S=S2:=funext λk=>propext ((hS k).trans ⟨λh=>h.elim (λh=>absurd h (h1.1 k)) id,.inr⟩);have e2:R=R2:=funext λk=>propext ((hR k).trans ⟨λh=>h.elim (λh=>absurd h (h1.2 k)) id,.inr⟩);rw[e1,e2];exact h2
theorem oW(f):∀{n i:Nat},i<n→Le (eB f n) (f i^eB (tI f i) n)
 |n+1,i,h=>by
  by_cases e:i=n
  ·subst e;have e1:eB (tI f i) (i+1)=bg^eB f i:=by
    rw[eB,iw (f:=tI f i) (g:=f) i λj hj=>by simp[tI,show j≠i by omega]];simp[tI]
   rw[e1];exact ba Le.rfl ((aG _).trans (aU _ _))
  ·have:=oW f (n:=n) (i:=i) (by omega);have e1:eB (tI f i) (n+1)=f n^eB (tI f i) n:=(by rw[eB];simp[tI,mD e]);rw[e1];exact(ba Le.rfl this).trans (iX _ _ _)
theorem rR(f):∀{n i:Nat},i<n→Le (f i^eB (tI f i) n) (eB f n)
 |n+1,i,h=>by
  by_cases e:i=n
  ·subst e;have e1:eB (tI f i) (i+1)=bg^eB f i:=by
    rw[eB,iw (f:=tI f i) (g:=f) i λj hj=>by simp[tI,show j≠i by omega]];simp[tI]
   rw[e1];exact ba Le.rfl (MA _)
  ·have:=rR f (n:=n) (i:=i) (by omega);have e1:eB (tI f i) (n+1)=f n^eB (tI f i) n:=(by rw[eB];simp[tI,mD e]);rw[e1];exact(iX _ _ _).trans (ba Le.rfl this)
abbrev qL(c:Cf)(p:Nat→bO)(l w:Nat)(n:Int):List Lf:=[aJ (cQ c),aJ (cF c),aJ (cL c),aJ (cW c),aC (cH c),aC (cR c),a_ (cD c),aJ (jU c),aJ (jz c),.ptr (p 0),.ptr (p 1),.ptr (p 2),.ptr (p 3),.ptr (p 4),.ptr (p 5),.ptr (p 6),.ptr (p 7),.ptr (some ⟨l,0⟩),.ptr (some ⟨w,0⟩),aJ n]
theorem tN(c p l w)(n:Int)(i)(hi:i<8):Ks.un [.ptr] (((qL c p l w n).drop (0+9+i*1)).take 1)=some (p i):=by
 have:i=0∨i=1∨i=2∨i=3∨i=4∨i=5∨i=6∨i=7:=by omega
 rcases this with rfl|rfl|rfl|rfl|rfl|rfl|rfl|rfl<;>rfl
def wJ(p:Nat→bO)(i:Nat)(x:bO):Nat→bO:=λj=>if j=i then x else p j
theorem sN(p i x):wJ p i x i=x:=by simp[wJ]
theorem AR(p x)(h:j≠i):wJ p i x j=p j:=by simp[wJ,h]
theorem NN(c p l w)(n:Int)(i)(hi:i<8)(x):dE (qL c p l w n) (0+9+i*1) [.ptr x]=qL c (wJ p i x) l w n:=by
 have:i=0∨i=1∨i=2∨i=3∨i=4∨i=5∨i=6∨i=7:=by omega
 rcases this with rfl|rfl|rfl|rfl|rfl|rfl|rfl|rfl<;>rfl
def ko(a:Nat)(f:Fl):SP:=ex λs:Sl=>ah a [aJ f.cr,aC f.nx,aC f.si,aX s]^aQ s KS f.sg
instance(a:Nat)(f:Fl):nt (ko a f):=by unfold ko;infer_instance
def lz(p:bO)(x:Option Fl):SP:=match x with
 |none=>br (p=none) bg
 |some f=>ex λa:Nat=>br (p=some ⟨a,0⟩) (ko a f)
instance(p:bO)(x:Option Fl):nt (lz p x):=by unfold lz;split<;>infer_instance
theorem LI(f)(h:∀j,nt (f j)):∀n,nt (eB f n)
 |0=>by unfold eB;infer_instance
 |n+1=>by have:=LI f h n;unfold eB;infer_instance
instance(f:Nat→SP)[h:∀j,nt (f j)](n:Nat):nt (eB f n):=LI f h n
abbrev Zb(p:Nat→bO)(fl:Nat→Option Fl):Nat→SP:=λj=>lz (p j) (fl j)
abbrev jf(p:Nat→bO)(fl:Nat→Option Fl):SP:=eB (Zb p fl) 8
abbrev rF(p:Nat→bO)(fl:Nat→Option Fl)(i:Nat):SP:=eB (tI (Zb p fl) i) 8
def qN(b:Nat)(v:Qm):SP:=ex λx:(Nat→bO)×Nat×Nat=>ah b (qL v.c x.1 x.2.1 x.2.2 v.n)^jN x.2.1 v.lv^tree 8 x.2.2 v.ks^jf x.1 v.fl
instance(b:Nat)(v:Qm):nt (qN b v):=by unfold qN;infer_instance
section
variable {w0 w:World} {S0 R0:Nat→Prop} {F G:SP}
theorem _root_.Go.X.au.ko(h:au w0 S0 R0 w F)(a)[tk:ou mh.ko a F f G]:∃s:Sl,au w0 S0 R0 w (ah a [aJ f.cr,aC f.nx,aC f.si,aX s]^aQ s KS f.sg^G):=by
 obtain⟨s,h⟩:=(h.le tk.le).lS;exact⟨s,h.aK⟩
theorem _root_.Go.X.au.su(h:au w0 S0 R0 w F)(a s f)[tk:Take (ah a [aJ f.cr,aC f.nx,aC f.si,aX s]^aQ s KS f.sg) F G]:au w0 S0 R0 w (mh.ko a f^G):=
 au.tH (f:=λs:Sl=>ah a [aJ f.cr,aC f.nx,aC f.si,aX s]^aQ s KS f.sg) s (h.le tk.le)
theorem _root_.Go.X.au.GU(h:au w0 S0 R0 w F)(a s)(cr nx si:Int)(sg f)(hf:f=⟨cr,nx,si,sg⟩)[tk:Take (ah a [aJ cr,aC nx,aC si,aX s]^aQ s KS sg) F G]:au w0 S0 R0 w (mh.ko a f^G):=by
 rw[hf];exact h.su a s ⟨cr,nx,si,sg⟩ (tk:=tk)
theorem _root_.Go.X.au.qN(h:au w0 S0 R0 w F)(b)[tk:ou mh.qN b F v G]:∃(p:Nat→bO) (l t:Nat),au w0 S0 R0 w (ah b (qL v.c p l t v.n)^jN l v.lv^tree 8 t v.ks^jf p v.fl^G):=by
 obtain⟨s,h⟩:=(h.le tk.le).lS;exact⟨s.1,s.2.1,s.2.2,h.aK⟩
theorem _root_.Go.X.au.vM(h:au w0 S0 R0 w F)(b p l t v)[tk:Take (ah b (qL v.c p l t v.n)^jN l v.lv^tree 8 t v.ks^jf p v.fl) F G]:au w0 S0 R0 w (mh.qN b v^G):=
 au.tH (f:=λx:(Nat→bO)×Nat×Nat=>ah b (qL v.c x.1 x.2.1 x.2.2 v.n)^jN x.2.1 v.lv^tree 8 x.2.2 v.ks^jf x.1 v.fl) (p,l,t) (h.le tk.le)
theorem _root_.Go.X.au.dI(h:au w0 S0 R0 w F)(p:Nat→bO)(fl:Nat→Option Fl){i:Nat}(hi:i<8){f:Fl}(hf:fl i=some f)[tk:Take (jf p fl) F G]:∃a,p i=some ⟨a,0⟩∧au w0 S0 R0 w (mh.ko a f^rF p fl i^G):=by
 have h:au w0 S0 R0 w ((lz (p i) (fl i)^rF p fl i)^G):=(h.le tk.le).le (ba (oW _ hi) Le.rfl);have h:=h.le (bS _ _ _);rw[hf]at h;obtain⟨a,h⟩:=au.lS (f:=λa:Nat=>br (p i=some ⟨a,0⟩) (mh.ko a f)) h;obtain⟨hp,h⟩:=h.aP;exact⟨a,hp,h⟩
theorem _root_.Go.X.au.Xa(h:au w0 S0 R0 w F)(p fl)(hi:i<8)(hf:fl i=none)[tk:Take (jf p fl) F G]:p i=none∧au w0 S0 R0 w (rF p fl i^G):=by
 have h:au w0 S0 R0 w ((lz (p i) (fl i)^rF p fl i)^G):=(h.le tk.le).le (ba (oW _ hi) Le.rfl);have h:=h.le (bS _ _ _);rw[hf]at h;obtain⟨hp,h⟩:=au.aP (p:=p i=none) (A:=bg) h;exact⟨hp,h.drop⟩
theorem LP(p q fl gl i)(hp:∀j,j≠i→q j=p j)(hf:∀j,j≠i→gl j=fl j):rF q gl i=rF p fl i:=iw 8 λj _=>by
 unfold tI;split
 ·rfl
 ·rename_i e;show lz _ _=lz _ _;rw[hp j e,hf j e]
theorem _root_.Go.X.au.tL(h:au w0 S0 R0 w F)(p fl)(hi:i<8)(q gl a f)(hp:∀j,j≠i→q j=p j)(hf:∀j,j≠i→gl j=fl j)(hq:q i=some ⟨a,0⟩)(hg:gl i=some f)[tk:Take (mh.ko a f^rF p fl i) F G]:au w0 S0 R0 w (jf q gl^G):=by
 have h:=(h.le tk.le).le (bS _ _ _);have h:au w0 S0 R0 w (lz (q i) (gl i)^rF p fl i^G):=by
  rw[hg];exact au.tH (f:=λa:Nat=>br (q i=some ⟨a,0⟩) (mh.ko a f)) a (au.je hq h)
 rw[←LP p q fl gl i hp hf]at h;exact(h.le (dh _ _ _)).le (ba (rR (Zb q gl) hi) Le.rfl)
theorem _root_.Go.X.au.inN(h:au w0 S0 R0 w F)(p fl)(hi:i<8)(q gl)(hp:∀j,j≠i→q j=p j)(hf:∀j,j≠i→gl j=fl j)(hq:q i=none)(hg:gl i=none)[tk:Take (rF p fl i) F G]:au w0 S0 R0 w (jf q gl^G):=by
 have h:=(h.le tk.le);have h:au w0 S0 R0 w (lz (q i) (gl i)^rF p fl i^G):=by
  rw[hg];exact au.je (p:=q i=none) (A:=bg) hq (h.le ((aG _).trans (aU _ _)))
 rw[←LP p q fl gl i hp hf]at h;exact(h.le (dh _ _ _)).le (ba (rR (Zb q gl) hi) Le.rfl)
theorem isN(h:au w0 S0 R0 w F)(p fl)(hi:i<8)[tk:Take (jf p fl) F G]:(p i).isNone=(fl i).isNone:=by
 cases hf:fl i with
 |none=>rw[(h.Xa p fl hi hf).1];rfl
 |some f=>obtain⟨a,ha,_⟩:=h.dI p fl hi hf;rw[ha];rfl
end
end mh

namespace F9
open bK bp f_ _root_.Go.X.Tree jE lM mV fh lJ mh
theorem zU(b p l t v)(hv:wG v.lv)(i:Int)(hi:0≤i∧i<8):bx (JH (some ⟨b,0⟩) i) (ah b (qL v.c p l t v.n)^jN l v.lv^tree 8 t v.ks^jf p v.fl) (λr=>br (r=fo v i.toNat) (ah b (qL v.c p l t v.n)^jN l v.lv^tree 8 t v.ks^jf p v.fl)):=
 bF λw0 S R h=>by
  have hl:=hv.GC;refine ac (aj h rfl (aI (f_.te l v.lv i (by omega)) h λw h=>?_));have hi':((i.toNat:Nat):Int)=i:=by omega
  refine ae (λc=>?_) λc=>?_
  ·have c:bY v.lv i≠0:=cS;refine au.aH ?_ h.aK;unfold fo;rw[hi',aF c]
  have c:¬bY v.lv i≠0:=cS;refine ac ⟨hi,aj h (tN _ _ _ _ _ i.toNat (by omega)) ?_⟩;cases hf:v.fl i.toNat with
  |none=>
   rw[(h.Xa p v.fl (by omega) hf).1];refine ae (λc=>(by simp at c)) λ_=>?_;refine au.aH ?_ h.aK;unfold fo;rw[hi',aw c,hf]
  |some f=>
   obtain⟨a,hp,h⟩:=h.dI p v.fl (by omega) hf;rw[hp];refine ae (λ_=>?_) λc=>(by simp at c);obtain⟨s,h⟩:=h.ko a;refine ac (aj h rfl ?_);have hs:=(h.rd (s:=s)).2;have h:=h.su a s f;have h:=h.tL p v.fl (by omega) p v.fl a f (λ_ _=>rfl) (λ_ _=>rfl) hp hf;refine ae (λc2=>?_) λc2=>?_
   ·have c2:(s.len:Int)>0:=gJ;refine au.aH ?_ h.aK;unfold fo;rw[hi',aw c,hf];exact(aw (λe=>by rw[e]at hs;simp only[iE]at hs;omega)).symm
   ·have c2:¬(s.len:Int)>0:=gJ;refine au.aH ?_ h.aK;unfold fo;rw[hi',aw c,hf];exact(aF (nX (by omega))).symm
theorem GZ(b p l t v)(hv:wG v.lv)(i:Int)(hi:0≤i∧i<8)(a s f)(hf:v.fl i.toNat=some f)(hp:p i.toNat=some ⟨a,0⟩):bx (JH (some ⟨b,0⟩) i)
  (ah b (qL v.c p l t v.n)^jN l v.lv^ah a [aJ f.cr,aC f.nx,aC f.si,aX s]^aQ s KS f.sg) (λr=>br (r=fo v i.toNat) (ah b (qL v.c p l t v.n)^jN l v.lv^ah a [aJ f.cr,aC f.nx,aC f.si,aX s]^aQ s KS f.sg)):=
 bF λw0 S R h=>by
  have hl:=hv.GC;refine ac (aj h rfl (aI (f_.te l v.lv i (by omega)) h λw h=>?_));have hi':((i.toNat:Nat):Int)=i:=by omega
  refine ae (λc=>?_) λc=>?_
  ·have c:bY v.lv i≠0:=cS;refine au.aH ?_ h.aK;unfold fo;rw[hi',aF c]
  have c:¬bY v.lv i≠0:=cS;refine ac ⟨hi,aj h (tN _ _ _ _ _ i.toNat (by omega)) ?_⟩;rw[hp];refine ae (λ_=>?_) λc=>(by simp at c);refine ac (aj h rfl ?_);have hs:=(h.rd (s:=s)).2;refine ae (λc2=>?_) λc2=>?_
  ·have c2:(s.len:Int)>0:=gJ;refine au.aH ?_ h.aK;unfold fo;rw[hi',aw c,hf];exact(aw (λe=>by rw[e]at hs;simp only[iE]at hs;omega)).symm
  ·have c2:¬(s.len:Int)>0:=gJ;refine au.aH ?_ h.aK;unfold fo;rw[hi',aw c,hf];exact(aF (nX (by omega))).symm
theorem ET(b p l t v)(hv:wG v.lv)(i rq af:Int)(hi:0≤i∧i<8)(hl:U rq)(hs:∀f,v.fl i.toNat=some f→U f.si):bx (Qh (some ⟨b,0⟩) i rq af) (ah b (qL v.c p l t v.n)^jN l v.lv^tree 8 t v.ks^jf p v.fl) (λr=>br (r=idle v i.toNat rq af) (ah b (qL v.c p l t v.n)^jN l v.lv^tree 8 t v.ks^jf p v.fl)):=
 bF λw0 S R h=>by
  refine ac ⟨hi,aj h (tN _ _ _ _ _ i.toNat (by omega)) ?_⟩;cases hf:v.fl i.toNat with
  |none=>
   rw[(h.Xa p v.fl (by omega) hf).1];refine ae (λc=>(by simp at c)) λ_=>?_;refine au.aH ?_ h.aK;unfold idle;rw[hf]
  |some f=>
   rw[isN h p v.fl (i:=i.toNat) (by omega),hf];refine ae (λ_=>?_) λc=>(by simp at c);refine aI (zU b p l t v hv i hi) h λw h=>?_;obtain⟨a,hp,h⟩:=h.dI p v.fl (by omega) hf;rw[hp];refine ae (λc=>?_) λc=>?_
   ·have c:fo v i.toNat=0:=cS;obtain⟨s,h⟩:=h.ko a;refine ac (aj h rfl (aI (e_ _ _ (hs f hf) hl) h λw h=>?_));have h:=h.su a s f;have h:=h.tL p v.fl (by omega) p v.fl a f (λ_ _=>rfl) (λ_ _=>rfl) hp hf;refine au.aH ?_ h.aK;unfold idle;rw[hf];simp[c]
   ·have c:¬fo v i.toNat=0:=cS;have h:=h.tL p v.fl (by omega) p v.fl a f (λ_ _=>rfl) (λ_ _=>rfl) hp hf;refine au.aH ?_ h.aK;unfold idle;rw[hf];simp[c]
theorem all_congr(p q fl gl)(hp:∀j,j<8→q j=p j)(hf:∀j,j<8→gl j=fl j):jf q gl=jf p fl:=iw 8 λj hj=>by show lz _ _=lz _ _;rw[hp j hj,hf j hj]
abbrev cq(v:Qm)(af:Int)(k:Nat):Qm:={v with fl:=λi=>if i<k∧idle v i 3000000000 af=true then none else v.fl i}
theorem za(v)(af:Int)(k):idle (cq v af k) k 3000000000 af=idle v k 3000000000 af:=by
 have e:(cq v af k).fl k=v.fl k:=by unfold cq;simp
 have e2:fo (cq v af k) k=fo v k:=by unfold fo;rw[e]
 unfold idle;rw[e,e2]
theorem EA(b p l t v)(hv:iM v)(af:Int):bx (Ui (some ⟨b,0⟩) af) (ah b (qL v.c p l t v.n)^jN l v.lv^tree 8 t v.ks^jf p v.fl) (λ_=>ex λp:Nat→bO=>ah b (qL ((bM v af)).c p l t ((bM v af)).n)^jN l ((bM v af)).lv^tree 8 t ((bM v af)).ks^jf p ((bM v af)).fl):=
 bF λw0 S R h=>by
  have h:au w0 S R w0 ((ex λp:Nat→bO=>ah b (qL ((cq v af (0:Int).toNat)).c p l t ((cq v af (0:Int).toNat)).n)^jN l ((cq v af (0:Int).toNat)).lv^tree 8 t ((cq v af (0:Int).toNat)).ks^jf p ((cq v af (0:Int).toNat)).fl)^bg):=by
   have e:cq v af (0:Int).toNat=v:=(by unfold cq;simp);rw[e];exact au.tH (f:=λp:Nat→bO=>ah b (qL v.c p l t v.n)^jN l v.lv^tree 8 t v.ks^jf p v.fl) p h.aK
  refine cZ (λy:Int=>ex λp:Nat→bO=>ah b (qL ((cq v af y.toNat)).c p l t ((cq v af y.toNat)).n)^jN l ((cq v af y.toNat)).lv^tree 8 t ((cq v af y.toNat)).ks^jf p ((cq v af y.toNat)).fl) (λy:Int=>0≤y∧y≤8) (λy:Int=>(8-y).toNat) h.bq ⟨by decide,by decide⟩ ?_;rintro(y:Int) w hy h;obtain⟨p,h⟩:=(h.le (aG _)).lS;have hw:i64.wrap (y+1)=y+1:=fu;refine ae (λc=>?_) λc=>?_
  ·have c:y<8:=cS;have hfy:(cq v af y.toNat).fl y.toNat=v.fl y.toNat:=(by unfold cq;simp);refine aq (ET b p l t (cq v af y.toNat) hv.lv y 3000000000 af ⟨hy.1,c⟩ (by unfold U;omega) (λf hf=>(hv.fl _ f (hfy▸hf)).2.si)) h λr w h=>?_;obtain⟨hr,h⟩:=h.aP;rw[hr,za];have hn:(y+1).toNat=y.toNat+1:=(by omega);dsimp only;rw[hw];have key:∀(q:Nat→bO) (w:World),au w0 S R w (ah b (qL v.c q l t v.n)^jN l v.lv^tree 8 t v.ks^jf q (cq v af (y+1).toNat).fl^bg)→(((0≤y+1∧y+1≤8)∧au w0 S R w (ex λp:Nat→bO=>ah b (qL ((cq v af (y+1).toNat)).c p l t ((cq v af (y+1).toNat)).n)^jN l ((cq v af (y+1).toNat)).lv^tree 8 t ((cq v af (y+1).toNat)).ks^jf p ((cq v af (y+1).toNat)).fl))∧(8-(y+1)).toNat<(8-y).toNat):=λq w h=>by
    refine⟨⟨by omega,?_⟩,by omega⟩;have h:au w0 S R w ((ex λp:Nat→bO=>ah b (qL ((cq v af (y+1).toNat)).c p l t ((cq v af (y+1).toNat)).n)^jN l ((cq v af (y+1).toNat)).lv^tree 8 t ((cq v af (y+1).toNat)).ks^jf p ((cq v af (y+1).toNat)).fl)^bg):=au.tH (f:=λp:Nat→bO=>ah b (qL ((cq v af (y+1).toNat)).c p l t ((cq v af (y+1).toNat)).n)^jN l ((cq v af (y+1).toNat)).lv^tree 8 t ((cq v af (y+1).toNat)).ks^jf p ((cq v af (y+1).toNat)).fl) q h.aK;exact h.bq
   refine ae (λc2=>?_) λc2=>?_
   ·obtain⟨f,hf,_⟩:=qg c2;obtain⟨a,hp,h⟩:=h.dI p (cq v af y.toNat).fl (i:=y.toNat) (by omega) (hfy.trans hf);refine ac ⟨⟨hy.1,c⟩,?_⟩;refine aB h b (qL v.c (wJ p y.toNat none) l t v.n) rfl (jd (by show 0+9+y.toNat*1+1≤20;omega)) (NN _ _ _ _ _ y.toNat (by omega) none) λw h=>?_;have h:=h.inN p (cq v af y.toNat).fl (i:=y.toNat) (by omega) (wJ p y.toNat none) (cq v af (y+1).toNat).fl (λj e=>AR _ _ e) (λj e=>by
     unfold cq;simp only;have:(j<(y+1).toNat∧idle v j 3000000000 af=true)↔(j<y.toNat∧idle v j 3000000000 af=true):=⟨λh=>⟨by omega,h.2⟩,λh=>⟨by omega,h.2⟩⟩;by_cases h:j<y.toNat∧idle v j 3000000000 af=true
     ·rw[aF h,aF (this.2 h)]
     ·rw[aw h,aw (λx=>h (this.1 x))]) (sN _ _ _) (by unfold cq;exact aF ⟨by omega,c2⟩)
    exact key (wJ p y.toNat none) w h.aK
   ·have e:(cq v af (y+1).toNat).fl=(cq v af y.toNat).fl:=funext λj=>by
     unfold cq;simp only;have:(j<(y+1).toNat∧idle v j 3000000000 af=true)↔(j<y.toNat∧idle v j 3000000000 af=true):=⟨λh=>⟨by
      have:j≠y.toNat:=λe=>by have:=h.2;rw[e,c2]at this;cases this
      omega,h.2⟩,λh=>⟨by omega,h.2⟩⟩
     by_cases h:j<y.toNat∧idle v j 3000000000 af=true
     ·rw[aF h,aF (this.2 h)]
     ·rw[aw h,aw (λx=>h (this.1 x))]
    refine key p w ?_;rw[e];exact h.aK
  ·have c:¬y<8:=cS;have e:y=8:=(by omega);subst e;have e:jf p (bM v af).fl=jf p (cq v af (8:Int).toNat).fl:=all_congr _ _ _ _ (λ_ _=>rfl) λj hj=>by
    show(if _ then _ else _)=(if _ then _ else _);by_cases h:idle v j 3000000000 af=true
    ·rw[aF h,aF ⟨hj,h⟩]
    ·rw[aw h,aw (λx=>h x.2)]
   refine au.gI p ?_;rw[e];exact h.aK
theorem MD(b p l t v)(hv:iM v)(n s)(af:Int)(hs:0≤sK s∧sK s<8)(hn:U af):bx (Uj (some ⟨b,0⟩) (some ⟨n,0⟩) af)
  (ah n (Ks.mk KS s)^ah b (qL v.c p l t v.n)^jN l v.lv^tree 8 t v.ks^jf p v.fl) (λr=>br (r=iQ v s af) (ah n (Ks.mk KS (if iQ v s af=0 then drawn v s af else s))^ah b (qL v.c p l t v.n)^jN l v.lv^tree 8 t v.ks^jf p v.fl)):=
 bF λw0 S R h=>by
  have hH:U (cH v.c):=by have:=hv.cf.h;unfold U;omega
  refine aM h λw h=>ac (ac (aj h rfl ⟨hs,aj h (tN _ _ _ _ _ _ (by omega)) ?_⟩));refine ac (aj h rfl (aI (e_ _ _ hn hH) h λw h=>?_));refine aS h (λ_=>ah n (Ks.mk KS s)^ah b (qL v.c p l t v.n)^jN l v.lv^tree 8 t v.ks^jf p v.fl) (λ_=>iQ v s af=0) (λ_ w hx h=>?_) ?_
  ·refine ac (aj h rfl (ac ?_));refine aB h n (Ks.mk KS (drawn v s af)) rfl rfl rfl λw h=>?_;refine au.aH hx.symm ?_;rw[aF hx];exact h.aK
  refine aM h λw h=>ac (ac (aj h rfl (aj h rfl ?_)));refine ae (λc=>?_) λc1=>?_
  ·have c:v.n≥cL v.c:=cS;have e:iQ v s af=2:=(by unfold iQ;rw[aF c]);refine au.aH e.symm ?_;rw[e,aw (by decide)];exact h.aK
  have c1:¬v.n≥cL v.c:=by simpa using c1
  refine aS h (λ_=>ah n (Ks.mk KS s)^ah b (qL v.c p l t v.n)^jN l v.lv^tree 8 t v.ks^jf p v.fl) (λy:Bool=>y=true↔∃f,v.fl (sK s).toNat=some f∧(f.sg.length:Int)≥cW v.c) (λy w hx h=>?_) ?_
  ·refine ae (λc=>?_) λc2=>?_
   ·have e:iQ v s af=3:=(by unfold iQ;rw[aw c1,aF (hx.1 c)]);refine au.aH e.symm ?_;rw[e,aw (by decide)];exact h.aK
   have c2:¬∃f,v.fl (sK s).toNat=some f∧(f.sg.length:Int)≥cW v.c:=λx=>by have:=hx.2 x;rw[c2]at this;cases this
   refine ac (aj h rfl ?_);refine ae (λc=>?_) λc3=>?_
   ·have c:uZ s>bH af (cH v.c):=cS;refine ac (aj h rfl ?_);refine ae (λc4=>?_) λc4=>?_
    ·have e:iQ v s af=4:=(by unfold iQ;rw[aw c1,aw c2,aF ⟨c,c4⟩]);refine au.aH e.symm ?_;rw[e,aw (by decide)];exact h.aK
    ·exact⟨by unfold iQ;rw[aw c1,aw c2,aw (λx=>by rw[c4]at x;cases x.2)],h.aK⟩
   ·have c3:¬uZ s>bH af (cH v.c):=(by simpa using c3);exact⟨by unfold iQ;rw[aw c1,aw c2,aw (λx=>c3 x.1)],h.aK⟩
  refine aM h λw h=>?_;cases hf:v.fl (sK s).toNat with
  |none=>
   rw[(h.Xa p v.fl (i:=(sK s).toNat) (by omega) hf).1];refine ae (λc=>(by simp at c)) λ_=>?_;exact⟨⟨λe=>(by cases e),λ⟨_,e,_⟩=>(by cases e)⟩,h.aK⟩
  |some f=>
   obtain⟨a,hp,h⟩:=h.dI p v.fl (i:=(sK s).toNat) (by omega) hf;rw[hp];refine ae (λ_=>?_) λc=>(by simp at c);obtain⟨s',h⟩:=h.ko a;have hs':=(h.rd (s:=s')).2;refine ac (ac (aj h rfl (aj h rfl ?_)));have h:=h.su a s' f;have h:=h.tL p v.fl (i:=(sK s).toNat) (by omega) p v.fl a f (λ_ _=>rfl) (λ_ _=>rfl) hp hf;refine⟨?_,h.aK⟩;show decide ((s'.len:Int)≥cW v.c)=true↔_;rw[j_,hs'];exact⟨λx=>⟨f,rfl,x⟩,λ⟨g,hg,x⟩=>by cases hg;exact x⟩
theorem R_(hv:iM v)(af:Int)(hi:fo v i≠0):(eS v i af).fl=v.fl∧(eS v i af).lv=v.lv:=by
 refine⟨funext λj=>?_,?_⟩
 ·by_cases e:j=i
  ·subst e;show jK v.fl j _ j=_;rw[co];cases hf:v.fl j with
   |none=>
    refine absurd (zX.2 ⟨λh=>?_,λf h=>by rw[hf]at h;cases h⟩) hi;obtain⟨f,h2⟩:=hv.th j h;rw[hf]at h2;cases h2
   |some f=>unfold fO;rw[hf];simp[hi]
  ·exact ec _ _ e
 ·show kK v i=_;unfold kK;rw[aF hi]
theorem Pg(b p l t v)(hv:iM v)(i af:Int)(hi:0≤i∧i<8):bx (Uk (some ⟨b,0⟩) i af) (ah b (qL v.c p l t v.n)^jN l v.lv^tree 8 t v.ks^jf p v.fl) (λ_=>ex λp:Nat→bO=>ah b (qL ((eS v i.toNat af)).c p l t ((eS v i.toNat af)).n)^jN l ((eS v i.toNat af)).lv^tree 8 t ((eS v i.toNat af)).ks^jf p ((eS v i.toNat af)).fl):=
 bF λw0 S R h=>by
  have h8:i.toNat<8:=by omega
  have hi':((i.toNat:Nat):Int)=i:=by omega
  have hl:=hv.lv.GC;have hb:∀x:bO,Nat.ble (0+9+i.toNat*1+[Lf.ptr x].length) (qL v.c p l t v.n).length=true:=λx=>jd (by show 0+9+i.toNat*1+1≤20;omega);refine ac ⟨hi,aj h (tN _ _ _ _ _ i.toNat h8) ?_⟩;refine aS h (λ_=>yj (λx:(Nat→bO)×Nat×Fl=>(x.1 i.toNat=some ⟨x.2.1,0⟩∧∀j,j≠i.toNat→x.1 j=p j)∧{x.2.2 with si:=0}=fO v i.toNat af) (λx=>ah b (qL v.c x.1 l t v.n)^jN l v.lv^tree 8 t v.ks^mh.ko x.2.1 x.2.2^rF p v.fl i.toNat)) (λ_=>fo v i.toNat=0) (λ_ w hx h=>?_) ?_
  ·obtain⟨⟨q,a,g⟩,⟨⟨hq,hq2⟩,hg⟩,h⟩:=h.NB;dsimp only at hq hq2 hg h;refine ac ⟨hi,aj h (tN _ _ _ _ _ i.toNat h8) ?_⟩;dsimp only;rw[hq];obtain⟨s,h⟩:=h.ko a;refine ac (aB h a [aJ g.cr,aC g.nx,aC 0,aX s] rfl rfl rfl λw h=>?_);have h:=h.GU a s g.cr g.nx 0 g.sg {g with si:=0} rfl;refine ac (aj h rfl ?_);refine aq (qn l v.lv i true (by omega)) h λr w h=>?_;obtain⟨hr,h⟩:=h.aP;have hw:kK v i.toNat=(kE v.lv i true).2:=by unfold kK;rw[aw (by rw[hx];simp),hi']
   rw[←hw,hg]at h;have h:=h.tL p v.fl (i:=i.toNat) h8 q (eS v i.toNat af).fl a (fO v i.toNat af) hq2 (λj e=>ec _ _ e) hq (co _ _ _);exact au.gI q h.aK
  cases hf:v.fl i.toNat with
  |none=>
   obtain⟨hp,h⟩:=h.Xa p v.fl h8 hf;rw[hp];refine ae (λ_=>?_) λc=>(by simp at c);refine aM h λw h=>ac (ac (aj h rfl (aD h λn8 w h=>⟨hi,?_⟩)));refine aB h b (qL v.c (wJ p i.toNat (some ⟨n8,0⟩)) l t v.n) rfl (hb _) (NN _ _ _ _ _ i.toNat h8 _) λw h=>?_;have h:=h.nil KS;have h:=h.su n8 ⟨none,0,0⟩ ⟨cF v.c,0,0,[]⟩;have hp0:fo v i.toNat=0:=zX.2 ⟨λh=>(by obtain⟨f,h2⟩:=hv.th _ h;rw[hf]at h2;cases h2),λf h=>(by rw[hf]at h;cases h)⟩;refine⟨hp0,(h.r_ (f:=λx:(Nat→bO)×Nat×Fl=>ah b (qL v.c x.1 l t v.n)^jN l v.lv^tree 8 t v.ks^mh.ko x.2.1 x.2.2^rF p v.fl i.toNat) (wJ p i.toNat (some ⟨n8,0⟩),n8,⟨cF v.c,0,0,[]⟩) ⟨⟨sN _ _ _,λj e=>AR _ _ e⟩,?_⟩).bq⟩;unfold fO;rw[hf]
  |some f=>
   have hpn:(p i.toNat).isNone=false:=(by rw[isN h p v.fl h8,hf];rfl);refine ae (λc=>(by rw[hpn]at c;cases c)) λ_=>?_;refine aI (zU b p l t v hv.lv i hi) h λw h=>?_;refine ae (λc=>?_) λc=>?_
   ·have c:fo v i.toNat≠0:=cS;obtain⟨e1,e2⟩:=R_ hv af c;refine au.gI p ?_;rw[e1,e2];exact h.aK
   have c:fo v i.toNat=0:=cS;refine aI (ET b p l t v hv.lv i 40000000 af hi (by unfold U;omega) (λf hf=>(hv.fl _ f hf).2.si)) h λw h=>?_;obtain⟨a,hp,h⟩:=h.dI p v.fl h8 hf;rw[hp];refine ae (λc2=>?_) λc2=>?_
   ·obtain⟨s,h⟩:=h.ko a;refine aM h λw h=>ac (ac (aj h rfl (aj h rfl (ac (aB h a [aJ (if cQ v.c>f.cr then cQ v.c else f.cr),aC f.nx,aC f.si,aX s] rfl rfl rfl λw h=>?_)))));have h:=h.GU a s (if cQ v.c>f.cr then cQ v.c else f.cr) f.nx f.si f.sg {f with cr:=if cQ v.c>f.cr then cQ v.c else f.cr} rfl;refine⟨c,(h.r_ (f:=λx:(Nat→bO)×Nat×Fl=>ah b (qL v.c x.1 l t v.n)^jN l v.lv^tree 8 t v.ks^mh.ko x.2.1 x.2.2^rF p v.fl i.toNat) (p,a,{f with cr:=if cQ v.c>f.cr then cQ v.c else f.cr}) ⟨⟨hp,λj e=>rfl⟩,?_⟩).bq⟩;unfold fO;rw[hf];simp[c,c2]
   ·refine⟨c,(h.r_ (f:=λx:(Nat→bO)×Nat×Fl=>ah b (qL v.c x.1 l t v.n)^jN l v.lv^tree 8 t v.ks^mh.ko x.2.1 x.2.2^rF p v.fl i.toNat) (p,a,f) ⟨⟨hp,λj e=>rfl⟩,?_⟩).bq⟩;unfold fO;rw[hf];simp[c,c2]
theorem QU(b v)(hv:iM v)(s)(af:Int)(hs:U (RR s)∧U (uZ s))(hn:U af):bx (TT (some ⟨b,0⟩) s af) (qN b v) (λr=>br (r=(fF v s af).1) (qN b (fF v s af).2)):=
 bF λw0 S R h=>by
  refine aD h λn w h=>ae (λc=>(by simp at c)) λ_=>aj h rfl (aI (jm _ _ _) h λw h=>?_);refine ae (λc=>?_) λc=>?_
  ·have c:¬(0≤sK s∧sK s≤7):=(by simpa only[nI,Dc]using c);have e:fF v s af=((0,8),v):=(by unfold fF;rw[aF c]);rw[e];exact au.aH rfl h.aK
  have c1:0≤sK s∧sK s≤7:=cS;refine aj h rfl (aI (jm _ _ _) h λw h=>?_);refine ae (λc=>?_) λc=>?_
  ·have c:¬(1≤lI s∧lI s≤65536):=(by simpa only[nI,Dc]using c);have e:fF v s af=((0,1),v):=(by unfold fF;rw[aw (by simpa using c1),aF c]);rw[e];exact au.aH rfl h.aK
  have c2:1≤lI s∧lI s≤65536:=cS;obtain⟨p,l,t,h⟩:=h.qN b;refine aq (EA b p l t v hv af) h λ_ w h=>?_;obtain⟨p,h⟩:=h.lS;have hc:=hv.collect af;refine aI (MD b p l t (bM v af) hc n s af (by omega) hn) h λw h=>?_;refine ae (λc=>?_) λc=>?_
  ·have c:iQ (bM v af) s af=0:=cS;have e:fF v s af=((0,0),kS (eS (bM v af) (sK s).toNat af) (sK s).toNat (drawn v s af)):=(by unfold fF;rw[aw (by simpa using c1),aw gJ,aF c]);rw[aF c]at h;rw[e,c];have ed:drawn (bM v af) s af=drawn v s af:=rfl;rw[ed]at h;have hnn:v.n<512:=by
    unfold iQ at c;split at c
    ·cases c
    ·rename_i h4;have h5:=hc.cf.l;have:¬v.n≥cL v.c:=h4;have h5:1≤cL v.c∧cL v.c≤512:=h5;omega
   have hd:mN (drawn v s af):=EF hv hs c2 hn;refine aj h rfl (aq (Pg b p l t (bM v af) hc (sK s) af (by omega)) h λ_ w h=>?_);obtain⟨p,h⟩:=h.lS;have hw:(eS (bM v af) (sK s).toNat af).fl (sK s).toNat=some (fO (bM v af) (sK s).toNat af):=co _ _ _;have hlen:(fO (bM v af) (sK s).toNat af).sg.length≤512:=by
    rw[AY];cases hh:(bM v af).fl (sK s).toNat with
    |none=>simp
    |some f=>exact(hc.len hh).2
   refine aM h λw h=>aj h rfl (ac ⟨by show 0≤sK s∧sK s<8;omega,aj h (tN _ _ _ _ _ (sK s).toNat (by omega)) ?_⟩);refine aM h λw h=>ay (b:=n) (x:=drawn v s af) h rfl ?_;obtain⟨a,hp,h⟩:=h.dI p (eS (bM v af) (sK s).toNat af).fl (i:=(sK s).toNat) (by omega) hw;rw[hp];obtain⟨g,hg⟩:∃g,g=fO (bM v af) (sK s).toNat af:=⟨_,rfl⟩;rw[←hg]at h hlen;obtain⟨sl,h⟩:=h.ko a;refine ac (aj h rfl (aD h λn16 w h=>aN h rfl ?_));have h:=h.ct n16 KS [drawn v s af] rfl (by simp);refine dF (s:=sl) (x:=⟨some ⟨n16,0⟩,1,1⟩) (ys:=[drawn v s af]) h rfl (by show g.sg.length+1≤_;omega) λs17 w _ h=>?_;refine ac (aB h a [aJ g.cr,aC g.nx,aC g.si,aX s17] rfl rfl rfl λw h=>ac (aj h rfl (ac ?_)));have h:=h.GU a s17 g.cr g.nx g.si (g.sg++[drawn v s af]) {g with sg:=g.sg++[drawn v s af]} rfl;have h:=h.tL p (eS (bM v af) (sK s).toNat af).fl (i:=(sK s).toNat) (by omega) p (kS (eS (bM v af) (sK s).toNat af) (sK s).toNat (drawn v s af)).fl a {g with sg:=g.sg++[drawn v s af]} (λ_ _=>rfl) (λj e=>by
    rw[lJ.add_eq];exact(ec _ _ e).trans (ec (bM v af).fl (some (fO (bM v af) (sK s).toNat af)) e).symm) hp (by rw[lJ.add_eq,hg];exact co _ _ _)
   have hnw:i64.wrap (v.n+1)=v.n+1:=wi (by have:=hv.n0;omega) (by omega);refine be h rfl λw h=>?_;refine au.aH rfl ?_;have h:=h.eP (b:=b) (L':=qL v.c p l t (v.n+1)) (by rw[show qL v.c p l t (v.n+1)=qL v.c p l t (i64.wrap (v.n+1)) by rw[hnw]];rfl);have h:au w0 S R w (ah b (qL (kS (eS (bM v af) (sK s).toNat af) (sK s).toNat (drawn v s af)).c p l t (kS (eS (bM v af) (sK s).toNat af) (sK s).toNat (drawn v s af)).n)^jN l (kS (eS (bM v af) (sK s).toNat af) (sK s).toNat (drawn v s af)).lv^tree 8 t (kS (eS (bM v af) (sK s).toNat af) (sK s).toNat (drawn v s af)).ks^jf p (kS (eS (bM v af) (sK s).toNat af) (sK s).toNat (drawn v s af)).fl^bg):=by
    rw[lJ.add_eq]at h⊢;exact h.aK
   exact(h.vM b p l t (kS (eS (bM v af) (sK s).toNat af) (sK s).toNat (drawn v s af))).bq
  ·have c:¬iQ (bM v af) s af=0:=cS;have e:fF v s af=((iQ (bM v af) s af,0),bM v af):=(by unfold fF;rw[aw (by simpa using c1),aw gJ,aw c]);rw[e];refine au.aH rfl ?_;exact(h.vM b p l t (bM v af)).bq
end F9

namespace Ea
open bK bp f_ _root_.Go.X.Tree jE lM mV fh lJ mh F9
theorem FW(a f)(hf:f.sg≠[]):bx (Y8 (some ⟨a,0⟩)) (mh.ko a f) (λr=>br (r=cC f) (mh.ko a f)):=
 bF λw0 S R h=>by
  obtain⟨s,h⟩:=h.ko a;cases hs:f.sg with
  |nil=>exact absurd hs hf
  |cons x l=>
   rw[hs]at h;refine aM h λw h=>ac (ac (aj h rfl (aj h rfl (bT (s:=s) h (by decide) (by simp) ?_))));refine eh h s 0 3 x rfl rfl (by decide) rfl ?_;have h:=h.GU a s f.cr f.nx f.si (x::l) f (by rw[←hs]);refine au.aH ?_ h.aK;unfold cC;rw[hs]
theorem IC(a f)(hf:f.sg≠[])(i:Int)(hi:0≤i∧i<8):bx (Y9 (some ⟨a,0⟩) i) (mh.ko a f) (λr=>br (r=(cC f,i)) (mh.ko a f)):=
 bF λw0 S R h=>by
  refine aD h λn w h=>aI (FW a f hf) h λw h=>?_;refine aA h (by rfl) λw h=>ay (b:=n) (x:=(cC f,u64.wrap i)) h rfl ?_;rw[iy (n:=i)];exact au.aH rfl h.aK
theorem OL(b:Nat)(p:Nat→bO)(l t:Nat)(v:Qm)(hc:yq v.c)(hn:1≤v.n∧v.n≤512)(a:Nat)(f:Fl)(i:Nat)(hf:YS i f)(s:Sg)(ss:List Sg)(hs:f.sg=s::ss)(hl:f.sg.length≤512)(af aY:Int)(hw:U af)(hr:U aY):
  bx (c97 (some ⟨b,0⟩) (some ⟨a,0⟩) af aY) (ah b (qL v.c p l t v.n)^mh.ko a f)
   (λr=>br (r=s) (ah b (qL v.c p l t (v.n-1))^mh.ko a {f with cr:=f.cr-lI s,nx:=bH af (dZ (lI s) (gq aY (cR v.c))),sg:=f.sg.tail})):=
 bF λw0 S R h=>by
  obtain⟨hok,hok2⟩:=hf.sg s (by rw[hs];simp);have hok3:=hok2.ln;have hcr:=hf.cr;have hL:U (gq aY (cR v.c)):=Cq hr hc.r;have hD:U (dZ (lI s) (gq aY (cR v.c))):=oU (by omega) hL;obtain⟨sl,h⟩:=h.ko a;have hsl:=(h.rd (s:=sl)).2;have hcap:=pg (s:=sl) (K:=KS) (xs:=f.sg) h;have hsl':sl.len=ss.length+1:=by rw[hsl,hs];rfl
  refine aD h λn1 w h=>ac (aj h rfl (bT (s:=sl) h (by decide) (by rw[hs];simp) ?_));refine eE h sl 0 (y:=s) (by rw[hs];rfl) rfl (aD h λn6 w h=>aA h (by rfl) λw h=>ac (aj h rfl ?_));refine wD (s:=sl) h 1 sl.len sl.cap rfl rfl rfl rfl (by omega) (by omega) (by omega) (by omega) λs9 h1 h2 h=>?_;have ht:(f.sg.take sl.len).drop 1=f.sg.tail:=by rw[kF (by omega),List.drop_one]
  rw[ht]at h;refine ac (aB h a [aJ f.cr,aC f.nx,aC f.si,aX s9] rfl rfl rfl λw h=>?_);have hnw:i64.wrap (v.n-1)=v.n-1:=fu;refine ac (aj h rfl (ac (aB h b (qL v.c p l t (v.n-1)) rfl rfl (by rw[show qL v.c p l t (v.n-1)=qL v.c p l t (i64.wrap (v.n-1)) by rw[hnw]];rfl) λw h=>?_)));have hcw:i64.wrap (f.cr-lI s)=f.cr-lI s:=fu;refine aM h λw h=>ac (aj h rfl (aj h rfl (ac (aB h a [aJ (f.cr-lI s),aC f.nx,aC f.si,aX s9] rfl rfl (by rw[show([aJ (f.cr-lI s),aC f.nx,aC f.si,aX s9]:List Lf)=[aJ (i64.wrap (f.cr-lI s)),aC f.nx,aC f.si,aX s9] by rw[hcw]];rfl) λw h=>?_))));refine aM h λw h=>aj h rfl (ac (aj h rfl (aq (M8 aY (cR v.c) hr hc.r) h λr w h=>?_)));obtain⟨he,h⟩:=h.aP;rw[he];refine aN h rfl (aq (w9 (lI s) _ (by omega) hL) h λr w h=>?_);obtain⟨he,h⟩:=h.aP;rw[he];refine aq (e_ _ _ hw hD) h λr w h=>?_;obtain⟨he,h⟩:=h.aP;rw[he];refine ac (aB h a [aJ (f.cr-lI s),aC (bH af (dZ (lI s) (gq aY (cR v.c)))),aC f.si,aX s9] rfl rfl rfl λw h=>?_);have h:=h.GU a s9 (f.cr-lI s) (bH af (dZ (lI s) (gq aY (cR v.c)))) f.si f.sg.tail {f with cr:=f.cr-lI s,nx:=bH af (dZ (lI s) (gq aY (cR v.c))),sg:=f.sg.tail} rfl;refine ay (b:=n6) (x:=s) h rfl (aA h (by rfl) λw h=>ay (b:=n1) (x:=s) h rfl ?_);exact au.aH rfl h.aK
def J2(v:Qm)(i:Int):Bool:=decide (0≤i∧i≤7)&&(v.fl i.toNat).isSome
theorem CP(b p l t v)(i:Int):bx (Ub (some ⟨b,0⟩) i) (ah b (qL v.c p l t v.n)^jN l v.lv^tree 8 t v.ks^jf p v.fl) (λr=>br (r=J2 v i) (ah b (qL v.c p l t v.n)^jN l v.lv^tree 8 t v.ks^jf p v.fl)):=
 bF λw0 S R h=>by
  unfold J2;refine ae (λ_=>?_) λc=>(by simp at c);refine aI (jm _ _ _) h λw h=>?_;refine ae (λc=>?_) λc=>?_
  ·have c':0≤i∧i≤7:=bZ c;refine ac ⟨by omega,aj h (tN _ _ _ _ _ i.toNat (by omega)) ?_⟩;refine au.aH ?_ h.aK;rw[isN h p v.fl (i:=i.toNat) (by omega),nM c'];cases v.fl i.toNat<;>rfl
  ·refine au.aH ?_ h.aK;rw[show decide (0≤i∧i≤7)=false from c];rfl
theorem mQ(b v c):bx (ZW (some ⟨b,0⟩) c) (qN b v) (λr=>br (r=(pI v c).1) (qN b (pI v c).2)):=
 bF λw0 S R h=>by
  unfold pI;refine aD h λn1 w h=>ae (λc=>(by simp at c)) λ_=>ay (b:=n1) (x:=c) h rfl (aI (nT c) h λw h=>?_);refine ae (λc1=>?_) λc1=>?_
  ·rw[aw (by simpa using c1)];exact au.aH rfl h.aK
  ·rw[aF (by simpa using c1)];obtain⟨p,l,t,h⟩:=h.qN b;refine ay (b:=n1) (x:=c) h rfl (ac (aB h b (qL c p l t v.n) rfl rfl rfl λw h=>?_));exact au.aH rfl (h.vM b p l t {v with c:=c}).aK
theorem ku(c):bx (ZK c) bg (λr=>ex λb:Nat=>br (r=if may c then(some ⟨b,0⟩,0)else(none,13)) (if may c then qN b (C4 c)else bg)):=
 bF λw0 S R h=>by
  refine aD h λn1 w h=>ay (b:=n1) (x:=c) h rfl (aI (nT c) h λw h=>?_);refine ae (λc1=>?_) λc1=>?_
  ·have c1:¬may c=true:=(by simpa using c1);refine au.gI 0 (au.aH ?_ ?_)
   ·rw[aw c1]
   ·rw[aw c1];exact h.h_
  ·have c1:may c=true:=(by simpa using c1);refine aM h λw h=>ay (b:=n1) (x:=c) h rfl (aq f_.ku h λr w h=>?_);obtain⟨l,h⟩:=h.lS;obtain⟨hr,h⟩:=h.aP;rw[hr];refine aO (b:=n1) h (aq (jE.ku 8) h λr w h=>?_);obtain⟨t,h⟩:=h.lS;obtain⟨hr,h⟩:=h.aP;rw[hr];refine aO (b:=n1) h (aD h λb w h=>?_);have hA:au w0 S R w (jf (λ_=>none) (λ_=>none)^tree 8 t []^jN l ([],[])^ah b (qL c (λ_=>none) l t 0)^bg):=by
    have h:au w0 S R w (bg^bg^bg^bg^bg^bg^bg^bg^bg^tree 8 t []^jN l ([],[])^ah b (qL c (λ_=>none) l t 0)^bg):=by
     have h:au w0 S R w (tree (room 8) t []^jN l ([],[])^ah b (qL c (λ_=>none) l t 0)^bg):=h.aK;have hE:∀{F:SP},au w0 S R w F→au w0 S R w (bg^F):=λh=>h.le ((aG _).trans (aU _ _));exact hE (hE (hE (hE (hE (hE (hE (hE (hE h))))))))
    have hp:∀{F:SP},Le (bg^F) (lz none none^F):=ba (λ_ _ _ h=>⟨rfl,h⟩) Le.rfl;have e:jf (λ_=>none) (λ_=>none)=lz none none^lz none none^lz none none^lz none none^lz none none^lz none none^lz none none^lz none none^bg:=rfl;rw[e];refine h.le (Le.trans ?_ (dh _ _ _));refine hp.trans (ba Le.rfl (Le.trans ?_ (dh _ _ _)));refine hp.trans (ba Le.rfl (Le.trans ?_ (dh _ _ _)));refine hp.trans (ba Le.rfl (Le.trans ?_ (dh _ _ _)));refine hp.trans (ba Le.rfl (Le.trans ?_ (dh _ _ _)));refine hp.trans (ba Le.rfl (Le.trans ?_ (dh _ _ _)));refine hp.trans (ba Le.rfl (Le.trans ?_ (dh _ _ _)));refine hp.trans (ba Le.rfl (Le.trans ?_ (dh _ _ _)));exact hp.trans (ba Le.rfl Le.rfl)
   refine au.gI b (au.aH ?_ ?_)
   ·rw[aF c1]
   ·rw[aF c1];exact(hA.vM b (λ_=>none) l t (C4 c)).bq
theorem C3(b v):bx (W6 (some ⟨b,0⟩)) (qN b v) (λr=>br (r=((lq v.ks).1.1,(lq v.ks).2)) (qN b v)):=
 bF λw0 S R h=>by
  refine ae (λc=>(by simp at c)) λ_=>?_;obtain⟨p,l,t,h⟩:=h.qN b;refine ac (aj h rfl (aI (fh.C3 t 8 v.ks) h λw h=>?_));refine aD h λn w h=>aA h (by rfl) λw h=>aj h rfl ?_;exact au.aH rfl (h.vM b p l t v).aK
abbrev KF:Ks:=[.int .i64,.int .i64,.int .i64,.int .u64,.int .u64,.sl]
abbrev Xa:Int×Int×Int×Int×Int×Sl:=(0,0,0,0,0,⟨none,0,0⟩)
theorem JS(b v)(hv:iM v)(i:Int):bx (TO (some ⟨b,0⟩) i) (qN b v) (λr=>aQ r KS (cz v i).1^qN b (cz v i).2):=
 bF λw0 S R h=>by
  obtain⟨p,l,t,h⟩:=h.qN b;refine aI (CP b p l t v i) h λw h=>?_;refine ae (λc=>?_) λc=>?_
  ·have c:J2 v i=false:=cS;have h:=(h.vM b p l t v).nil KS;have e:cz v i=([],v):=by
    unfold cz;split
    ·rfl
    ·rename_i hi;have hi:0≤i∧i≤7:=B7.1 hi;unfold J2 at c;rw[nM hi]at c;cases hf:v.fl i.toNat with
     |none=>rfl
     |some f=>rw[hf]at c;cases c
   rw[e];exact h.aK
  ·have c:J2 v i=true:=cS;unfold J2 at c;simp only[ej,j_,tP]at c;obtain⟨hi,f,hf⟩:=c;have hlen:=hv.len hf;have hi8:i.toNat<8:=(by omega);have hi':((i.toNat:Nat):Int)=i:=(by omega);have hl:=hv.lv.GC;have hn:=hv.le;have hn0:=hv.n0;refine ac ⟨by omega,aj h (tN _ _ _ _ _ i.toNat hi8) ?_⟩;obtain⟨a,hp,h⟩:=h.dI p v.fl hi8 hf;rw[hp];refine aS h (λ_=>ah b (qL v.c p l t v.n)^jN l v.lv^tree 8 t (cz v i).2.ks^mh.ko a f^rF p v.fl i.toNat) (λ_=>True) (λ_ w _ h=>?_) ?_
   ·refine ac (aj h rfl (aq (uN l v.lv i (by omega)) h λr w h=>?_));obtain⟨_,h⟩:=h.aP;rw[show(jI v.lv i).2=dI v.lv i from rfl]at h;refine ac ⟨by omega,?_⟩;refine aB h b (qL v.c (wJ p i.toNat none) l t v.n) rfl (jd (by show 0+9+i.toNat*1+1≤20;omega)) (NN _ _ _ _ _ i.toNat hi8 none) λw h=>?_;obtain⟨s,h⟩:=h.ko a;have hs:=(h.rd (s:=s)).2;have hnw:i64.wrap (v.n-((s.len:Nat):Int))=v.n-f.sg.length:=by rw[hs];exact fu
    refine aM h λw h=>ac (ac (aj h rfl (aj h rfl (ac ?_))));refine aB h b (qL v.c (wJ p i.toNat none) l t (v.n-f.sg.length)) rfl rfl (by rw[←hnw];rfl) λw h=>?_;refine ac (aj h rfl ?_);refine bR (JR s f.sg (by omega)) h λs2 w h=>?_;have h:=h.inN p v.fl hi8 (wJ p i.toNat none) (jK v.fl i.toNat none) (λj e=>AR _ _ e) (λj e=>ec _ _ e) (sN _ _ _) (co _ _ _);have e:cz v i=(f.sg,{v with fl:=jK v.fl i.toNat none,lv:=dI v.lv i,ks:=(cz v i).2.ks,n:=v.n-f.sg.length}):=by
     unfold cz;rw[aw (λx=>x hi),hf]
    have h:=h.vM b (wJ p i.toNat none) l t {v with fl:=jK v.fl i.toNat none,lv:=dI v.lv i,ks:=(cz v i).2.ks,n:=v.n-f.sg.length};rw[←show(cz v i).2={v with fl:=jK v.fl i.toNat none,lv:=dI v.lv i,ks:=(cz v i).2.ks,n:=v.n-f.sg.length}from dm Prod.snd e]at h;have e1:(cz v i).1=f.sg:=dm Prod.fst e;rw[e1];exact h.aK
   ·obtain⟨s,h⟩:=h.ko a;refine aI (GZ b p l t v hv.lv i (by omega) a s f hf hp) h λw h=>?_;have h:=h.su a s f;have ek:(cz v i).2.ks=if fo v i.toNat=3 then v.ks.erase (cC f,i)else v.ks:=by
     unfold cz;rw[aw (λx=>x hi),hf]
    rw[ek];refine ae (λc=>?_) λc=>?_
    ·have c:fo v i.toNat=3:=cS;obtain⟨h3,g,hg,hg2⟩:=vU.1 c;rw[hf]at hg;cases hg;have hk:(cC f,i)∈v.ks:=(hv.ks _).2 ⟨i.toNat,f,hf,hg2,h3,by rw[hi']⟩;refine aM h λw h=>ac (aj h rfl (aI (IC a f hg2 i (by omega)) h λw h=>?_));refine aN h rfl (aq (zf t 8 v.ks (cC f,i)) h λr w h=>?_);obtain⟨_,h⟩:=h.aP;rw[aF c];have ed:Gw v.ks (cC f,i)=(0,v.ks.erase (cC f,i)):=(by unfold Gw;rw[aF hk]);rw[ed]at h;exact⟨trivial,h.aK⟩
    ·have c:¬fo v i.toNat=3:=cS;rw[aw c];exact⟨trivial,h.aK⟩
end Ea

namespace yp
open bK bp f_ _root_.Go.X.Tree jE lM mV fh lJ mh F9 Ea
theorem DR{α:Type}{p:α→Bool}:∀{l:List α} {i:Nat},(∀j x,j<i→l[j]?=some x→p x=true)→(∀x,l[i]?=some x→p x=false)→l.takeWhile p=l.take i
 |[],i,_,_=>by simp
 |x::l,0,_,h=>by rw[Ap,aw (by rw[h x rfl];simp)];rfl
 |x::l,i+1,h1,h2=>by rw[Ap,aF (h1 0 x (by omega) rfl),List.take_succ_cons,DR (λj y hj hy=>h1 (j+1) y (by omega) hy) h2]
theorem Ja{α:Type}{l:List α}{i:Nat}{x:α}(h:l[i]?=some x):l.take (i+1)=l.take i++[x]:=by rw[lC,h];rfl
theorem Ru(b p l t c)(n:Int)(v)(hv:wG v)(hn:v.1≠[]):bx (Z9 (some ⟨b,0⟩)) (ah b (qL c p l t n)^jN l v) (λr=>br (r=decide (v.2≠[])) (ah b (qL c p l t n)^jN l v)):=
 Tg λw S R h=>by
  have hfew:=hv.GC;refine aD h λn1 w h=>ac (aj h rfl (aq (f_.jh _) h λf w h=>?_));obtain⟨m,h⟩:=h.lS;obtain⟨hf,h⟩:=h.aP;rw[hf];have h:=(h.take (ah n1 [a_ false])).je (p:=∀j y,j<0→(lm v)[j]?=some y→y.2=true) (λj y hj=>by omega);refine pr (f_.lN m l v (by omega)) (λi=>br (∀j y,j<i→(lm v)[j]?=some y→y.2=true) (ah n1 [a_ false])) (λj=>br (j=1∧v.2≠[]) (ah n1 [a_ true])) h ?_ ?_ ?_
  ·rintro i (x:Int×Bool) hx w S R BX next jump rdy bsy hmid hnext hjump h
   refine hmid h λw h=>?_;have h:=h.take (br (∀j y,j<i→(lm v)[j]?=some y→y.2=true) (ah n1 [a_ false]));obtain⟨hno,h⟩:=h.aP;refine ae (λc=>?_) λc=>?_
   ·have c:x.2=false:=cS;have h2:v.2≠[]:=λe=>by
     rcases Em hx with⟨_,_,h3⟩|⟨_,h3,_⟩
     ·rw[c]at h3;cases h3
     ·rw[e]at h3;simp at h3
    refine aB h n1 [a_ true] rfl rfl rfl λw h=>?_;have h:=(h.take (ah n1 [a_ true])).je (p:=1=1∧v.2≠[]) ⟨rfl,h2⟩;exact hjump 1 (by decide) h
   ·have c:x.2=true:=cS;have h:=(h.take (ah n1 [a_ false])).je (p:=∀j y,j<i+1→(lm v)[j]?=some y→y.2=true) (λj y hj hy=>by
     by_cases hji:j=i
     ·rw[hji,hx]at hy;cases hy;exact c
     ·exact hno j y (by omega) hy)
    exact hnext h
  ·intro w h;have h:=h.take (br (∀j y,j<(lm v).length→(lm v)[j]?=some y→y.2=true) (ah n1 [a_ false]));obtain⟨hno,h⟩:=h.aP;have h2:v.2=[]:=by
    cases h3:v.2 with
    |nil=>rfl
    |cons x r=>
     have:=hno v.1.length (x,false) (by rw[yU,h3];simp) (by unfold lm;rw[h3];simp);cases this
   refine aB h n1 [a_ false] rfl rfl rfl λw h=>?_;refine aj h rfl (aV h λw h=>?_);exact au.aH (by rw[h2];simp) h.aK
  ·intro j w hj h;have h:=h.take (br (j=1∧v.2≠[]) (ah n1 [a_ true]));obtain⟨⟨hj1,h2⟩,h⟩:=h.aP;rw[hj1];refine aj h rfl (aV h λw h=>?_);exact au.aH (by simp[h2]) h.aK
theorem QT(b p l t v)(hv:iM v)(af:Int):bx (Z8 (some ⟨b,0⟩) af) (ah b (qL v.c p l t v.n)^jN l v.lv^tree 8 t v.ks) (λ_=>ah b (qL v.c p l t v.n)^jN l (mW v af).lv^tree 8 t (mW v af).ks):=
 Tg λw0 S R h=>by
  have hkk:=hv.keys;have hfew:v.ks.length≤8:=by
   have:=qj 8 _ hkk.1 λx hx=>(hkk.2 x hx).1;simpa using this
  have hdl:(iZ v af).length≤8:=kH (List.takeWhile_prefix _).length_le hfew;refine aD h λn1 w h=>aD h λn2 w h=>?_;refine aS h (λ_=>ex λs:Sl=>ah n1 [aC af]^ah n2 [aX s]^aQ s KR (iZ v af)^ah b (qL v.c p l t v.n)^jN l v.lv^tree 8 t v.ks) (λ_=>True) (λ_ w _ h=>?_) ?_
  ·obtain⟨s,h⟩:=(h.le (aG _)).lS;have hs:=(h.rd (s:=s)).2;refine aj h rfl ?_;have hsplit:v.ks=iZ v af++v.ks.dropWhile (λk=>decide (k.1≤af)):=Aj.symm;have h:au w0 S R w (ah n1 [aC af]^ah n2 [aX s]^aQ s KR (iZ v af)^ah b (qL v.c p l t v.n)^jN l (v.lv.1,v.lv.2++((iZ v af).take (0:Int).toNat).map Prod.snd)^tree 8 t ((iZ v af).drop (0:Int).toNat++v.ks.dropWhile (λk=>decide (k.1≤af)))):=by
    have e:((iZ v af).drop (0:Int).toNat++v.ks.dropWhile (λk=>decide (k.1≤af)))=v.ks:=hsplit.symm;have e2:(v.lv.1,v.lv.2++((iZ v af).take (0:Int).toNat).map Prod.snd)=v.lv:=(by simp);rw[e,e2];exact h.aK
   refine cZ (λy:Int=>ah n1 [aC af]^ah n2 [aX s]^aQ s KR (iZ v af)^ah b (qL v.c p l t v.n)^jN l (v.lv.1,v.lv.2++((iZ v af).take y.toNat).map Prod.snd)^tree 8 t ((iZ v af).drop y.toNat++v.ks.dropWhile (λk=>decide (k.1≤af)))) (λy:Int=>0≤y∧y≤(iZ v af).length) (λy:Int=>((iZ v af).length-y).toNat) h ⟨by decide,by show(0:Int)≤_;omega⟩ ?_
   ·rintro(y:Int) w hy h;have hyw:i64.wrap (y+1)=y+1:=fu;refine ae (λc=>?_) λc=>?_
    ·have c:y<(s.len:Int):=cS;obtain⟨k,hk⟩:∃k,(iZ v af)[y.toNat]?=some k:=⟨_,gG (by omega)⟩;refine bT (s:=s) h hy.1 (by omega) (eE h s y.toNat hk rfl ?_);refine aD h λn25 w h=>aA h (by rfl) λw h=>aM h λw h=>ay (b:=n25) (x:=k) h rfl ?_;have hd:(iZ v af).drop y.toNat=k::(iZ v af).drop (y.toNat+1):=qG hk;have hdel:Gw ((iZ v af).drop y.toNat++v.ks.dropWhile (λk=>decide (k.1≤af))) k=(0,(iZ v af).drop (y.toNat+1)++v.ks.dropWhile (λk=>decide (k.1≤af))):=by
      rw[hd];unfold Gw;rw[aF (by simp),nK,List.erase_cons_head]
     refine ac (aj h rfl (aq (zf t 8 ((iZ v af).drop y.toNat++v.ks.dropWhile (λk=>decide (k.1≤af))) k) h λr w h=>?_));obtain⟨_,h⟩:=h.aP;rw[hdel]at h;have hkm:k∈v.ks:=by rw[hsplit,dX];exact .inl (jr hk)
     have hk8:=hkk.2 k.2 (ma.2 ⟨k,hkm,rfl⟩);have hkw:i64.wrap k.2=k.2:=fu;refine aM h λw h=>ac (aj h rfl (aj h rfl ?_));rw[hkw];have hpl:((iZ v af).take y.toNat).length≤8:=(by rw[fU];omega);have hvf:=hv.lv.GC;refine aq (qn l (v.lv.1,v.lv.2++((iZ v af).take y.toNat).map Prod.snd) k.2 false (by simp only[eQ,fy];omega)) h λr w h=>?_;obtain⟨_,h⟩:=h.aP;have hp:(kE (v.lv.1,v.lv.2++((iZ v af).take y.toNat).map Prod.snd) k.2 false).2=(v.lv.1,v.lv.2++((iZ v af).take (y.toNat+1)).map Prod.snd):=by
      have hnin:bY (v.lv.1,v.lv.2++((iZ v af).take y.toNat).map Prod.snd) k.2=0:=by
       rw[lX];intro hin;rw[←iD,dX]at hin;rcases hin with hin|hin
       ·exact hk8.2 hin
       ·have hnd:=hkk.1;rw[hsplit,mA,jZ]at hnd;have hnd:=hnd.1;rw[←G_ y.toNat (iZ v af),mA,jZ,hd]at hnd;exact hnd.2.2 _ hin _ (by simp) rfl
      rw[kE,aw (by omega),aw (by rw[hnin];simp),aw (by simp),Ja hk];simp
     rw[hp]at h;have e:(y+1).toNat=y.toNat+1:=by omega
     rw[hyw,e];exact⟨⟨by omega,h.aK⟩,by omega⟩
    ·have c:¬y<(s.len:Int):=cS;have e1:(iZ v af).take y.toNat=iZ v af:=kF (by omega);have e2:(iZ v af).drop y.toNat=[]:=B4 (by omega);rw[e1,e2,po]at h;refine aV h λw h=>?_;exact h.aK
  ·refine ac (aj h rfl (aq (fh.jh _) h λf w h=>?_));obtain⟨m,h⟩:=h.lS;obtain⟨hf,h⟩:=h.aP;rw[hf];have h:=(h.nil KR).eD (s:=⟨none,0,0⟩) (K:=KR) (ys:=v.ks.take 0) rfl;have h0:∀j x,j<0→v.ks[j]?=some x→decide (x.1≤af)=true:=λj x hj=>by omega
   have h:=(h.take (ah n1 [aC af]^ah n2 [aX ⟨none,0,0⟩]^aQ ⟨none,0,0⟩ KR (v.ks.take 0)));have h:=h.r_ (f:=λs:Sl=>ah n1 [aC af]^ah n2 [aX s]^aQ s KR (v.ks.take 0)) (φ:=λ_=>∀j x,j<0→v.ks[j]?=some x→decide (x.1≤af)=true) ⟨none,0,0⟩ h0;refine pr (fh.lN m t 8 v.ks) (λi=>yj (λ_:Sl=>∀j x,j<i→v.ks[j]?=some x→decide (x.1≤af)=true) (λs:Sl=>ah n1 [aC af]^ah n2 [aX s]^aQ s KR (v.ks.take i))) (λj=>yj (λ_:Sl=>j=2) (λs:Sl=>ah n1 [aC af]^ah n2 [aX s]^aQ s KR (iZ v af))) h ?_ ?_ ?_
   ·rintro i (x:Key) hx w S R BX next jump rdy bsy hmid hnext hjump h
    have hi:i<v.ks.length:=(ie.1 hx).1;refine aD h λn12 w h=>aA h (by rfl) λw h=>hmid h λw h=>?_;have h:=h.take (yj (λ_:Sl=>∀j x,j<i→v.ks[j]?=some x→decide (x.1≤af)=true) (λs:Sl=>ah n1 [aC af]^ah n2 [aX s]^aQ s KR (v.ks.take i)));obtain⟨s,hno,h⟩:=h.vQ;refine aj h rfl (aj h rfl (ae (λc=>?_) λc=>?_))
    ·have c:x.1>af:=cS;have e:iZ v af=v.ks.take i:=DR hno λy hy=>by rw[hx]at hy;cases hy;simp;omega
     rw[←e]at h;have h:=h.r_ (f:=λs:Sl=>ah n1 [aC af]^ah n2 [aX s]^aQ s KR (iZ v af)) (φ:=λ_=>2=2) s rfl;exact hjump 2 (by decide) h
    ·have c:¬x.1>af:=cS;refine aj h rfl (ay (b:=n12) (x:=x) h rfl (aD h λn17 w h=>?_));have h:=h.ct n17 KR [x] rfl (by simp);refine dF (s:=s) (x:=⟨some ⟨n17,0⟩,1,1⟩) (ys:=[x]) h rfl (by rw[fU];simp;omega) λs18 w _ h=>?_;refine aB h n2 [aX s18] rfl rfl rfl λw h=>?_;have h:=h.eD (s:=s18) (K:=KR) (ys:=v.ks.take (i+1)) (Ja hx).symm;have h:=h.r_ (f:=λs:Sl=>ah n1 [aC af]^ah n2 [aX s]^aQ s KR (v.ks.take (i+1))) (φ:=λ_=>∀j x,j<i+1→v.ks[j]?=some x→decide (x.1≤af)=true) s18 (λj y hj hy=>by
      by_cases hji:j=i
      ·rw[hji,hx]at hy;cases hy;simp;omega
      ·exact hno j y (by omega) hy)
     exact hnext h
   ·intro w h;have h:=h.take (yj (λ_:Sl=>∀j x,j<v.ks.length→v.ks[j]?=some x→decide (x.1≤af)=true) (λs:Sl=>ah n1 [aC af]^ah n2 [aX s]^aQ s KR (v.ks.take v.ks.length)));obtain⟨s,hno,h⟩:=h.vQ;have e:iZ v af=v.ks.take v.ks.length:=DR hno λy hy=>by simp at hy
    rw[←e]at h;exact⟨trivial,au.gI s h.aK⟩
   ·intro j w hj h;have h:=h.take (yj (λ_:Sl=>j=2) (λs:Sl=>ah n1 [aC af]^ah n2 [aX s]^aQ s KR (iZ v af)));obtain⟨s,hj1,h⟩:=h.vQ;rw[hj1];exact⟨trivial,au.gI s h.aK⟩
theorem HV(hv:wG v)(hh:(bP v).2.2=true):(∃a,v.1=(bP v).1::a∧(bP v).2.1=true∧(eO v).2=(a,v.2++[(bP v).1])∧(cj v).2=(a,v.2))∨
  ∃c,v.1=[]∧v.2=(bP v).1::c∧(bP v).2.1=false∧(eO v).2=([],c++[(bP v).1])∧(cj v).2=([],c):=by
 obtain⟨a,c⟩:=v;have hf:∀(x:Int) (l:List Int),x∉l→l.filter (λy=>decide (y≠x))=l:=λx l hx=>by
  rw[Ao];intro y hy;have:y≠x:=λe=>hx (e▸hy);simpa using this
 have hf2:∀(x:Int) (l:List Int),x∉l→(x::l).filter (λy=>decide (y≠x))=l:=λx l hx=>by rw[Ag,aw (by simp),hf x l hx]
 cases a with
 |cons x a=>
  left;have hn:x∉a++c:=(lD.1 hv.1).1;rw[dX]at hn;refine⟨a,rfl,rfl,?_,?_⟩
  ·unfold eO dI;rw[aF hh];show(((x::a).filter (λy=>decide (y≠x))),c.filter (λy=>decide (y≠x))++[x])=(a,c++[x]);rw[hf2 x a λe=>hn (.inl e),hf x c λe=>hn (.inr e)]
  ·unfold cj dI;rw[aF hh];show(((x::a).filter (λy=>decide (y≠x))),c.filter (λy=>decide (y≠x)))=(a,c);rw[hf2 x a λe=>hn (.inl e),hf x c λe=>hn (.inr e)]
 |nil=>cases c with
  |nil=>cases hh
  |cons x c=>
   right;have hn:x∉c:=(lD.1 hv.1).1;refine⟨c,rfl,rfl,rfl,?_,?_⟩
   ·unfold eO dI;rw[aF hh];show(([]:List Int).filter (λy=>decide (y≠x)),(x::c).filter (λy=>decide (y≠x))++[x])=([],c++[x]);rw[hf2 x c hn];rfl
   ·unfold cj dI;rw[aF hh];show(([]:List Int).filter (λy=>decide (y≠x)),(x::c).filter (λy=>decide (y≠x)))=([],c);rw[hf2 x c hn];rfl
abbrev wt(fl:Nat→Option Fl)(L:List Int):Nat:=(L.map λx=>XU (fl x.toNat)+1).sum
theorem pu(fl)(x:Int)(L:List Int):wt fl (x::L)=XU (fl x.toNat)+1+wt fl L:=by simp[wt]
theorem H8(fl)(L M:List Int):wt fl (L++M)=wt fl L+wt fl M:=by simp[wt]
theorem Jk(fl){i:Nat}(x){L:List Int}(h:(i:Int)∉L)(h0:∀y∈L,0≤y):wt (jK fl i x) L=wt fl L:=by
 unfold wt
 congr 1
 refine List.map_congr_left λy hy=>?_;have:y≠(i:Int):=λe=>h (e▸hy);have:=h0 y hy;rw[ec _ _ (show y.toNat≠i by omega)]
theorem BZ(v):mu v=wt v.fl (v.lv.1++v.lv.2)+v.lv.1.length:=rfl
section
variable {v:Qm} {i:Nat} {f:Fl}
theorem ve(h:tx v i f):(∃a,v.lv.1=(i:Int)::a∧(bP v.lv).2.1=true∧(eO v.lv).2=(a,v.lv.2++[(i:Int)])∧(cj v.lv).2=(a,v.lv.2)∧(i:Int)∉a++v.lv.2∧∀y∈a++v.lv.2,0≤y)∨
  ∃c,v.lv.1=[]∧v.lv.2=(i:Int)::c∧(bP v.lv).2.1=false∧(eO v.lv).2=([],c++[(i:Int)])∧(cj v.lv).2=([],c)∧(i:Int)∉c∧∀y∈c,0≤y:=by
 have hs:=HV h.ok.lv h.is;rw[h.hd]at hs;obtain⟨hd,hr⟩:=h.ok.lv;rcases hs with⟨a,h1,h2,h3,h4⟩|⟨c,h1,h2,h3,h4,h5⟩
 ·rw[h1]at hd hr;exact .inl ⟨a,h1,h2,h3,h4,(lD.1 hd).1,λy hy=>(hr y (mz _ hy)).1⟩
 ·rw[h1,h2]at hd hr;exact .inr ⟨c,h1,h2,h3,h4,h5,(lD.1 hd).1,λy hy=>(hr y (mz _ hy)).1⟩
theorem qE(h:tx v i f)(hc:f.cr≤0):mu {v with fl:=jK v.fl i (some {f with cr:=f.cr+cQ v.c}),lv:=(eO v.lv).2}<mu v:=by
 have hq:=h.ok.cf.q;have e1:XU (v.fl i)=(1-f.cr).toNat:=by rw[h.fl];rfl
 have e2:XU (jK v.fl i (some {f with cr:=f.cr+cQ v.c}) i)=(1-(f.cr+cQ v.c)).toNat:=by rw[co];rfl
 rw[BZ,BZ];dsimp only;rcases ve h with⟨a,h1,_,h3,_,h5,h6⟩|⟨c,h1,h2,_,h3,_,h5,h6⟩
 ·rw[h3,h1,←iD,nK,pu,H8,Jk _ _ h5 h6,pu,eW,e1,e2];simp only[fq,wt,DB,Hs];omega
 ·rw[h3,h1,h2,po,po,H8,Jk _ _ h5 h6,pu,pu,eW,e1,e2];simp only[wt,DB,Hs,iE];omega
theorem ue(h:tx v i f)(ht:(bP v.lv).2.1=true):mu {v with lv:=(eO v.lv).2}<mu v:=by
 rw[BZ,BZ];dsimp only;rcases ve h with⟨a,h1,_,h3,_⟩|⟨c,_,_,h4,_⟩
 ·rw[h3,h1,←iD,nK,pu,H8,pu];simp only[fq,wt,DB,Hs];omega
 ·rw[h4]at ht;cases ht
theorem mH(h:tx v i f)(x:Option Fl)(ks:List Key):mu {v with fl:=jK v.fl i x,lv:=(cj v.lv).2,ks:=ks}<mu v:=by
 rw[BZ,BZ];dsimp only;rcases ve h with⟨a,h1,_,_,h3,h5,h6⟩|⟨c,h1,h2,_,_,h3,h5,h6⟩
 ·rw[h3,h1,nK,pu,Jk _ _ h5 h6];simp only[fq];omega
 ·rw[h3,h1,h2,po,po,Jk _ _ h5 h6,pu];simp only[iE];omega
theorem DV(h:v.fl i=x):jK v.fl i x=v.fl:=by
 funext j
 by_cases e:j=i
 ·rw[e,co,h]
 ·exact ec _ _ e
theorem vD(h:tx v i f)(af:Int)(rates:List Int)(k:Nat):jW af rates (k+1) v=
  if f.cr≤0 then jW af rates k {v with fl:=jK v.fl i (some {f with cr:=f.cr+cQ v.c}),lv:=(eO v.lv).2}
   else match f.sg with
    |[]=>if(bP v.lv).2.1=true∧v.lv.2≠[]then jW af rates k {v with lv:=(eO v.lv).2}
     else jW af rates k {v with lv:=(cj v.lv).2,fl:=jK v.fl i (some {f with si:=af})}
    |s::_=>if cC f>af then jW af rates k {v with lv:=(cj v.lv).2,ks:=lZ v.ks (cC f,(i:Int))}
     else(some s,dP v i f s af (gg rates i)):=by
 have hm:=kp h.is;cases e:v.lv.1++v.lv.2 with
 |nil=>rw[e]at hm;cases hm
 |cons x l=>
  have e2:v.fl (bP v.lv).1.toNat=some f:=by rw[h.hd,eW];exact h.fl
  rw[jW,e,e2];simp only[h.hd,eW]
  try rfl
end
theorem vE(h:(bP v.lv).2.2=false)(af:Int)(rates:List Int)(k):jW af rates (k+1) v=(none,v):=by
 have e:=Q1 h;rw[jW,e];rfl
abbrev Ro:Sg:=(0,0,0,0,false)
abbrev zS:List Lf:=[aJ 0,aC 0,aJ 0,aC 0,a_ false]
def Bm:Option Sg→Sg×Bool
 |none=>(Ro,false)
 |some s=>(s,true)
theorem Cr{rates:List Int}(hr:∀x∈rates,U x)(i):U (gg rates i):=by
 unfold gg;split
 ·rename_i h;exact hr _ (jr h)
 ·exact⟨by decide,by decide⟩
theorem yt(b v)(hv:iM v)(af:Int)(hn:U af)(s)(rates:List Int)(hr:∀x∈rates,U x):bx (W5 (some ⟨b,0⟩) af s)
  (qN b v^aZ s KU rates) (λr=>br (r=Bm (gU v af rates).1) (qN b (gU v af rates).2)):=
 bF λw0 S R h=>by
  obtain⟨p,l,t,h⟩:=h.qN b;refine aD h λn1 w h=>ae (λc=>(by simp at c)) λ_=>?_;refine aq (QT b p l t v hv af) h λ_ w h=>?_;have h:au w0 S R w (ah n1 zS^aZ s KU rates^ah b (qL ((mW v af)).c p l t ((mW v af)).n)^jN l ((mW v af)).lv^tree 8 t ((mW v af)).ks^jf p ((mW v af)).fl):=h.aK;refine fV (λ(_:Unit) (u:Qm)=>ah n1 zS^aZ s KU rates^ah b (qL u.c p l t u.n)^jN l u.lv^tree 8 t u.ks^jf p u.fl) (λ_ u=>iM u∧∃k,mu u<k∧jW af rates k u=gU v af rates) (λ_ u=>mu u) (mW v af) h ⟨hv.due af,_,xw _,rfl⟩ ?_;rintro K (y:Unit) u w ⟨hu,k,hk,hR⟩ h next
  have hslen:=(h.rd (s:=s)).2;have hl:=hu.lv.GC;cases k with
  |zero=>omega
  |succ k=>
  refine ac (aj h rfl (aq (f_.zo l u.lv (by omega)) h λr w h=>?_));obtain⟨hr2,h⟩:=h.aP;rw[hr2];cases hh:(bP u.lv).2.2 with
  |false=>
   rw[vE hh]at hR;refine ae (λ_=>?_) λc=>(by simp at c);refine aA h (by rfl) λw h=>ay (b:=n1) (x:=Ro) h rfl ?_;rw[←hR];exact au.aH rfl (h.vM b p l t u).aK
  |true=>
   refine ae (λc=>(by simp at c)) λ_=>?_;have hm:=kp hh;have hx:=hu.lv.2 _ hm;obtain⟨i,hi⟩:∃i:Nat,(bP u.lv).1=(i:Int):=⟨(bP u.lv).1.toNat,by omega⟩;obtain⟨f,hf⟩:=hu.th i (by rw[hi]at hm;exact hm);have hA:tx u i f:=⟨hu,hi,hh,hf⟩;have hi8:=hA.lt;have hF:=(hu.fl i f hf).2;have hcr:=hF.cr;have hq:=hu.cf.q;rw[vD hA]at hR;have hit:((i:Nat):Int).toNat=i:=eW i;rw[hi];refine ac ⟨by omega,?_⟩;rw[hit];refine aj h (tN _ _ _ _ _ i hi8) ?_;obtain⟨a,hp,h⟩:=h.dI p u.fl hi8 hf;rw[hp];obtain⟨sl,h⟩:=h.ko a;have hsl:=(h.rd (s:=sl)).2;refine ac (aj h rfl (ae (λc=>?_) λc=>?_))
   ·have c:f.cr≤0:=cS;rw[aF c]at hR;have hcw:i64.wrap (f.cr+cQ u.c)=f.cr+cQ u.c:=fu;refine aM h λw h=>ac (ac (aj h rfl (aj h rfl (ac ?_))));refine aB h a [aJ (f.cr+cQ u.c),aC f.nx,aC f.si,aX sl] rfl rfl (by rw[show([aJ (f.cr+cQ u.c),aC f.nx,aC f.si,aX sl]:List Lf)=[aJ (i64.wrap (f.cr+cQ u.c)),aC f.nx,aC f.si,aX sl] by rw[hcw]];rfl) λw h=>?_;refine ac (aj h rfl (aq (rQ l u.lv hu.lv) h λr w h=>?_));obtain⟨_,h⟩:=h.aP;have h:=h.GU a sl (f.cr+cQ u.c) f.nx f.si f.sg {f with cr:=f.cr+cQ u.c} rfl;have h:=h.tL p u.fl hi8 p (jK u.fl i (some {f with cr:=f.cr+cQ u.c})) a {f with cr:=f.cr+cQ u.c} (λ_ _=>rfl) (λj e=>ec _ _ e) hp (co _ _ _);have hmu:=qE hA c;exact next () {u with fl:=jK u.fl i (some {f with cr:=f.cr+cQ u.c}),lv:=(eO u.lv).2} w ⟨hA.w8 c,k,by omega,hR⟩ h.aK hmu
   have c:¬f.cr≤0:=cS;rw[aw c]at hR;refine aS h (λ_=>ah n1 zS^aZ s KU rates^ah b (qL u.c p l t u.n)^jN l u.lv^tree 8 t u.ks^rF p u.fl i^ah a [aJ f.cr,aC f.nx,aC f.si,aX sl]^aQ sl KS f.sg) (λy:Bool=>y=true↔f.sg=[]∧((bP u.lv).2.1=true∧u.lv.2≠[])) (λ(y:Bool) w hy h=>?_) ?_
   ·refine ae (λc2=>?_) λc2=>?_
    ·obtain⟨e1,e2⟩:=hy.1 c2;rw[e1]at hR;simp only at hR;rw[aF e2]at hR;refine ac (aj h rfl (aq (rQ l u.lv hu.lv) h λr w h=>?_));obtain⟨_,h⟩:=h.aP;have h:=h.su a sl f;have h:=h.tL p u.fl hi8 p u.fl a f (λ_ _=>rfl) (λ_ _=>rfl) hp hf;have hmu:=ue hA e2.1;exact next () {u with lv:=(eO u.lv).2} w ⟨hA.back,k,by omega,hR⟩ h.aK hmu
    have c2:¬(f.sg=[]∧((bP u.lv).2.1=true∧u.lv.2≠[])):=λx=>by have:=hy.2 x;rw[c2]at this;cases this
    refine ac (aj h rfl (ae (λc3=>?_) λc3=>?_))
    ·have c3:sl.len=0:=by
      have c3:(sl.len:Int)=0:=(by simpa using c3);omega
     have e1:f.sg=[]:=nX (by omega);rw[e1]at hR;simp only at hR;rw[aw (λx=>c2 ⟨e1,x⟩)]at hR;refine ac (aj h rfl (aq (f_.ov l u.lv (by omega)) h λr w h=>?_));obtain⟨_,h⟩:=h.aP;refine ac (aB h a [aJ f.cr,aC f.nx,aC af,aX sl] rfl rfl rfl λw h=>?_);have h:=h.GU a sl f.cr f.nx af f.sg {f with si:=af} rfl;have h:=h.tL p u.fl hi8 p (jK u.fl i (some {f with si:=af})) a {f with si:=af} (λ_ _=>rfl) (λj e=>ec _ _ e) hp (co _ _ _);have hmu:=mH hA (some {f with si:=af}) u.ks;exact next () {u with lv:=(cj u.lv).2,fl:=jK u.fl i (some {f with si:=af})} w ⟨hA.yA e1 hn,k,by omega,by rw[e1];exact hR⟩ h.aK hmu
    have c3:sl.len≠0:=by
     have c3:¬(sl.len:Int)=0:=(by simpa using c3);omega
    have e1:f.sg≠[]:=λe=>by rw[e]at hsl;exact c3 (by simpa using hsl)
    cases hss:f.sg with
    |nil=>exact absurd hss e1
    |cons s0 ss=>
    rw[hss]at hR;simp only at hR;have h:=h.su a sl f;refine aq (FW a f e1) h λr w h=>?_;obtain⟨hr3,h⟩:=h.aP;rw[hr3];refine ae (λc4=>?_) λc4=>?_
    ·have c4:cC f>af:=(by simpa using c4);rw[aF c4]at hR;obtain⟨hOk,hnin,hlt⟩:=hA.wait e1;refine ac (aj h rfl (aq (f_.ov l u.lv (by omega)) h λr w h=>?_));obtain⟨_,h⟩:=h.aP;refine aM h λw h=>ac (aj h rfl (aq (IC a f e1 i (by omega)) h λr w h=>?_));obtain⟨hr4,h⟩:=h.aP;rw[hr4];refine aN h rfl (aq (GL t 8 u.ks (cC f,(i:Int))) h λr w h=>?_);obtain⟨_,h⟩:=h.aP;have ei:MR 8 u.ks (cC f,(i:Int))=(0,lZ u.ks (cC f,(i:Int))):=(by unfold MR;rw[aw hnin,aw (by omega)]);rw[ei]at h;have h:=h.tL p u.fl hi8 p u.fl a f (λ_ _=>rfl) (λ_ _=>rfl) hp hf;have hmu:=mH hA (some f) (lZ u.ks (cC f,(i:Int)));rw[DV hf]at hmu;exact next () {u with lv:=(cj u.lv).2,ks:=lZ u.ks (cC f,(i:Int))} w ⟨hOk,k,by omega,hR⟩ h.aK hmu
    have c4:¬cC f>af:=(by simpa using c4);rw[aw c4]at hR;have hlen:=hu.len hf;have hlen1:1≤f.sg.length:=(by rw[hss];simp);have hle:=hu.le;have hUr:=Cr hr i;have hsent:=hA.Yx hss (by omega) hn (oU (by have:=(hF.sg s0 (by rw[hss];simp)).2.ln;omega) (Cq hUr hu.cf.r));refine aS h (λ_=>ah n1 zS^aZ s KU rates^ah b (qL u.c p l t u.n)^jN l u.lv^tree 8 t u.ks^rF p u.fl i^mh.ko a f) (λy:Int=>y=gg rates i) (λ(y:Int) w hy h=>?_) ?_
    ·rw[hy];refine aq (OL b p l t u hu.cf (by omega) a f i hF s0 ss hss (by omega) af (gg rates i) hn hUr) h λr w h=>?_;obtain⟨hr5,h⟩:=h.aP;rw[hr5];refine aA h (by rfl) λw h=>ay (b:=n1) (x:=s0) h rfl ?_;have h:=h.tL p u.fl hi8 p (dP u i f s0 af (gg rates i)).fl a {f with cr:=f.cr-lI s0,nx:=bH af (dZ (lI s0) (gq (gg rates i) (cR u.c))),sg:=f.sg.tail} (λ_ _=>rfl) (λj e=>ec _ _ e) hp (co _ _ _);rw[←hR];exact au.aH rfl (h.vM b p l t (dP u i f s0 af (gg rates i))).aK
    ·refine ae (λc5=>?_) λc5=>?_
     ·have c5:(i:Int)<s.len:=(by simpa using c5);obtain⟨x,hx⟩:∃x,rates[i]?=some x:=⟨_,gG (by omega)⟩;refine bT (s:=s) h (by omega) (by omega) ?_;refine eE h s i (y:=x) hx (by rw[hit];rfl) ?_;refine⟨?_,h.aK⟩;show x=gg rates i;unfold gg;rw[hx]
     ·have c5:¬(i:Int)<s.len:=(by simpa using c5);refine⟨?_,h.aK⟩;show(18446744073709551615:Int)=gg rates i;unfold gg;rw[q_ (by omega)]
   ·refine ac (aj h rfl (ae (λc2=>?_) λc2=>?_))
    ·simp only[ej,sy]at c2;obtain⟨c2,c3⟩:=c2;have c2:sl.len=0:=by have c2:(sl.len:Int)=0:=c2;omega
     have e1:f.sg=[]:=nX (by omega);have hne:u.lv.1≠[]:=by
      rcases ve hA with⟨a',h1,_⟩|⟨c',_,_,h4,_⟩
      ·rw[h1];simp
      ·rw[c3]at h4;cases h4
     refine aq (Ru b p l t u.c u.n u.lv hu.lv hne) h λr w h=>?_;obtain⟨hr3,h⟩:=h.aP;rw[hr3];refine⟨?_,h.aK⟩;show decide (u.lv.2≠[])=true↔_;rw[j_];exact⟨λx=>⟨e1,c3,x⟩,λx=>x.2.2⟩
    ·refine⟨?_,h.aK⟩;refine⟨λe=>(by cases e),λ⟨e1,e2,_⟩=>?_⟩;rw[e1]at hsl;have:sl.len=0:=by simpa using hsl
     rw[e2,this]at c2;cases c2
end yp

namespace A3
open bK bp f_ _root_.Go.X.Tree jE lM mV fh lJ mh F9 Ea yp
abbrev pE:Cf:=(3000,15000,100,50,10000000000,0,false,100000,1000)
theorem u0:U 0:=bh 0
theorem xr:may pE=true:=by decide
theorem vT:yq pE:=GS xr (by decide) u0
end A3

namespace Pr
open bK bp f_ _root_.Go.X.Tree jE lM mV fh lJ mh F9 Ea yp A3
def one(c:Cf)(i:Nat)(f:Fl)(lv:LV)(ks:List Key):Qm:=⟨c,jK (λ_=>none) i (some f),lv,ks,f.sg.length⟩
theorem Mv{af:Int}(h:∀k∈v.ks,¬k.1≤af):mW v af=v:=by
 have h1:v.ks.takeWhile (λk=>decide (k.1≤af))=[]:=by
  cases e:v.ks with
  |nil=>rfl
  |cons k l=>rw[Ap,aw (by have:=h k (by rw[e];simp);simpa using this)]
 have h2:v.ks.dropWhile (λk=>decide (k.1≤af))=v.ks:=by
  cases e:v.ks with
  |nil=>rfl
  |cons k l=>rw[Dm,aw (by have:=h k (by rw[e];simp);simpa using this)]
 show(⟨v.c,v.fl,(v.lv.1,v.lv.2++(iZ v af).map Prod.snd),v.ks.dropWhile _,v.n⟩:Qm)=v;unfold iZ;rw[h1,h2];simp
def XW(af:Int)(rates:List Int)(u:Qm):Option Sg×Qm:=jW af rates (mu u+1) u
theorem VI(v)(af:Int)(rates:List Int):gU v af rates=XW af rates (mW v af):=rfl
end Pr

namespace Lb
open bK bp f_ _root_.Go.X.Tree jE lM mV fh lJ mh F9 Ea yp A3 Pr
abbrev oI(n:Int):Sg:=(0,0,n,0,false)
abbrev l0:LV:=([((0:Nat):Int)],[])
theorem Gx(hv:iM v){af:Int}(hn:U af){rates:List Int}(hr:∀x∈rates,U x):iM (gU v af rates).2:=by
 rw[VI];unfold XW
 suffices ∀k u,iM u→iM (jW af rates k u).2 from this _ _ (hv.due af)
 intro k
 induction k with
 |zero=>intro u hu;exact hu
 |succ k ih=>
  intro u hu;cases hh:(bP u.lv).2.2 with
  |false=>rw[vE hh];exact hu
  |true=>
   have hmm:=kp hh;have hx:=hu.lv.2 _ hmm;obtain⟨i,hi⟩:∃i:Nat,(bP u.lv).1=(i:Int):=⟨(bP u.lv).1.toNat,by omega⟩;obtain⟨f,hf⟩:=hu.th i (by rw[hi]at hmm;exact hmm);have hA:tx u i f:=⟨hu,hi,hh,hf⟩;rw[vD hA];by_cases c:f.cr≤0
   ·rw[aF c];exact ih _ (hA.w8 c)
   ·rw[aw c];cases hs:f.sg with
    |nil=>
     simp only;split
     ·exact ih _ hA.back
     ·rw[←hs];exact ih _ (hA.yA hs hn)
    |cons s l=>
     simp only;split
     ·exact ih _ (hA.wait (by rw[hs];simp)).1
     ·have hF:=(hu.fl i f hf).2;exact hA.Yx hs (by omega) hn (oU (by have:=(hF.sg s (by rw[hs];simp)).2.ln;omega) (Cq (Cr hr i) hu.cf.r))
end Lb

end Go.X
