/- Contracts. -/
import Derived.Test.YtniflenfpbbikaaGreatDoorB1
set_option linter.all false
set_option autoImplicit true
set_option relaxedAutoImplicit true
namespace Go.X
open IntKind (u64 i64)
open Go.Proofs
namespace lP
open _root_.Go.X.Tree yR BI iU kR
theorem AJ:∀{c:List jN} {t t':Tr},t.rt=t'.rt→t.ht=t'.ht→iH l (fill t c)→iH l' t'→(∀j,j∈lc c∨j∈rc c→l'[j]?=l[j]?)→iH l' (fill t' c)
 |[],_,_,_,_,_,h,_=>h
 |.L i k r::c,t,t',h1,h2,h3,h4,hf=>by
  have h3':iH l (fill (.n t i k r) c):=h3;obtain⟨⟨q1,q2,q3⟩,_⟩:=kd h3';refine AJ (c:=c) (t:=.n t i k r) (t':=.n t' i k r) rfl (by simp only[Tr.ht,h2]) h3' ⟨?_,h4,q3.frame λj hj=>hf j (.inr (by simp[rc,hj]))⟩ λj hj=>hf j (hj.imp (λx=>x) λx=>by simp[rc,x]);rw[hf i (.inr (by simp[rc])),q1,h1,h2]
 |.R q i k::c,t,t',h1,h2,h3,h4,hf=>by
  have h3':iH l (fill (.n q i k t) c):=h3;obtain⟨⟨q1,q2,q3⟩,_⟩:=kd h3';refine AJ (c:=c) (t:=.n q i k t) (t':=.n q i k t') rfl (by simp only[Tr.ht,h2]) h3' ⟨?_,q2.frame λj hj=>hf j (.inl (by simp[lc,hj])),h4⟩ λj hj=>hf j (hj.imp (λx=>by simp[lc,x]) λx=>x);rw[hf i (.inl (by simp[lc])),q1,h1,h2]
theorem yY:∀{c:List jN} {t t':Tr},t.ht=t'.ht→t'.pP→(fill t c).pP→(fill t' c).pP
 |[],_,_,_,h,_=>h
 |.L i k r::c,t,t',h1,h2,h3=>by
  have h3':(fill (.n t i k r) c).pP:=h3;have q:=mY h3';exact yY (c:=c) (t:=.n t i k r) (t':=.n t' i k r) (by simp only[Tr.ht,h1]) ⟨h2,q.2.1,by rw[←h1];exact q.2.2.1,by rw[←h1];exact q.2.2.2⟩ h3'
 |.R q i k::c,t,t',h1,h2,h3=>by
  have h3':(fill (.n q i k t) c).pP:=h3;have g:=mY h3';exact yY (c:=c) (t:=.n q i k t) (t':=.n q i k t') (by simp only[Tr.ht,h1]) ⟨g.1,h2,by rw[←h1];exact g.2.2.1,by rw[←h1];exact g.2.2.2⟩ h3'
theorem GU:∀(d c:List jN),lk (d++c)=lk c++lk d
 |[],c=>by simp[lk]
 |.L i k r::d,c=>by simp only[nM,lk];exact GU d c
 |.R q i k::d,c=>by simp only[nM,lk,GU d c];simp
theorem HM:∀(d c:List jN),rk (d++c)=rk d++rk c
 |[],c=>by simp[rk]
 |.L i k r::d,c=>by simp only[nM,rk,HM d c];simp
 |.R q i k::d,c=>by simp only[nM,rk];exact HM d c
theorem zm:∀(d c:List jN) (t:Tr),fill t (d++c)=fill (fill t d) c
 |[],c,t=>rfl
 |f::d,c,t=>by simp only[nM,fill];exact zm d c _
theorem tg:∀(t:Tr) (c:List jN),(g_ (f_ t c).2).reverse++sP (f_ t c).1=(g_ c).reverse++kN t
 |.e,c=>by simp[f_,sP,kN]
 |.n .e i m r,c=>by simp[f_,sP,kN]
 |.n (.n a j x b) i m r,c=>by
  rw[f_,tg (.n a j x b)];simp[g_,kN,jN.i]
theorem MU{rm:Int}(hg:ns l T us fr ks rm)(hR:iH l1 (fill (.n a j m b) c))(hab:a=.e∨b=.e)(ha:(fill (.n a j m b) c).pP)(hids:(fill (.n a j m b) c).cJ=T.cJ)(hlk:Lk l1 5000)(hlen:l1.length=l.length)(hino:lk c++(a.ino++b.ino)++rk c=ks.erase k):
  ∃T',(lS l1 j (Bs a b).rt (g_ c)).2=T'.rt∧ns (lS l1 j (Bs a b).rt (g_ c)).1 T' (us.set j false) (fr++[j]) (ks.erase k) rm:=by
 have hnd0:=hg.nd;have hdT:T.cJ.Nodup:=(ka.1 hnd0).1;obtain⟨T',s,hs,mv,so,si⟩:=MA (T:=fill (.n a j m b) c) hR rfl hab ha (by rw[hids];exact hdT);rw[hs]at mv;rw[hs]at so si;have hlen2:=BN (g_ c) l1 j (Bs a b).rt;have e1:T'.ino=ks.erase k:=by rw[mv.ino,so,hino]
 have e2:T'.cJ=lc c++(a.cJ++b.cJ)++rc c:=by rw[mv.cJ,si]
 have e3:T.cJ=lc c++(a.cJ++j::b.cJ)++rc c:=by rw[←hids,lW];rfl
 have hp:(T.cJ++fr).Perm (T'.cJ++(fr++[j])):=by
  rw[e2,e3];have p1:(lc c++(a.cJ++j::b.cJ)++rc c++fr).Perm (j::(lc c++(a.cJ++b.cJ)++rc c++fr)):=by
   have:lc c++(a.cJ++j::b.cJ)++rc c++fr=(lc c++a.cJ)++j::(b.cJ++rc c++fr):=(by simp);rw[this];refine List.perm_middle.trans ?_;simp
  refine p1.trans ?_;rw[←jF];exact(Oh (l₁:=[j])).trans (by simp)
 have hmem:∀p,p∈T.cJ↔p=j∨p∈T'.cJ:=λp=>by
  rw[e2,e3];simp only[eQ,ec];constructor
  ·rintro((h|h|h|h)|h)
   ·exact .inr (.inl (.inl h))
   ·exact .inr (.inl (.inr (.inl h)))
   ·exact .inl h
   ·exact .inr (.inl (.inr (.inr h)))
   ·exact .inr (.inr h)
  ·rintro(h|(h|h|h)|h)
   ·exact .inl (.inr (.inr (.inl h)))
   ·exact .inl (.inl h)
   ·exact .inl (.inr (.inl h))
   ·exact .inl (.inr (.inr (.inr h)))
   ·exact .inr h
 have hj:j∉T'.cJ:=by
  have h1:=hp.nodup_iff.1 hnd0;rw[ka]at h1;exact λhx=>h1.2.2 j hx j (by simp) rfl
 have hul:=hg.ul;have hjl:j<l.length:=hg.kQ.lt j ((hmem j).2 (.inl rfl));refine⟨T',mv.root,⟨mv.kQ,mv.pP,e1,?_,?_,by rw[rp,hul,hlen2,hlen],hp.nodup_iff.1 hnd0,λp hp=>?_,λp hp=>?_,λp hp=>?_,hg.rr,by rw[hlen2,hlen];exact hg.room⟩⟩
 ·exact hg.xA.sublist Hk
 ·have hsz:(T'.ino.length:Int)≤5000:=by
   rw[e1];have h1:=hg.small.2.2.2;have h2:=(Hk (a:=k) (l:=ks)).length_le;omega
  exact SY mv.kQ hlen2 hsz hlk λp hp=>mv.fr p (by rw[←mv.cJ];exact hp)
 ·rw[hlen2,hlen]at hp;rcases hg.all p hp with h|h
  ·rcases(hmem p).1 h with h|h
   ·exact .inr (by simp[h])
   ·exact .inl h
  ·exact .inr (by simp[h])
 ·rw[hlen2,hlen];rw[eQ,j_]at hp;rcases hp with hp|rfl
  ·exact hg.lt p hp
  ·exact hjl
 ·rw[xZ (show j≠p from λe=>hj (e▸hp))];exact hg.on p ((hmem p).2 (.inr hp))
theorem zg(t)(rm:Int)(ks k):bu (Qc (some ⟨t,0⟩) k) (tree rm t ks) (λr=>bs (r=(GC ks k).1) (tree rm t (GC ks k).2)):=
 bC λw0 S R h=>by
  obtain⟨l,T,us,fr,a0,s,s1,s2,hg,h⟩:=h.tree rm t;obtain⟨b1,b2,b3,b4⟩:=hg.small;have hs:Ba T.ino:=by rw[hg.ino];exact hg.xA
  refine aD h λn1 w h=>ae (λc=>(by cases c)) λ_=>aw (x:=k) h rfl ?_;refine ar (Jn t (some ⟨a0,0⟩) s ks.length rm l T hg.kQ b1 b2 k) h λq w h=>?_;refine aw (x:=k) h rfl ?_;refine aK (BR t (some ⟨a0,0⟩) s ks.length rm l T hg.kQ hs b2 k q (T.rt+1)) h λw h=>?_;unfold GC;rcases IA hg k with⟨hk,c,hf,eks,g1,g2⟩|⟨hk,L,i,Rr,c,hf,hfill⟩
  ·rw[ay hk];rw[hf];refine ae (λ_=>?_) λc=>(by simp[Tr.rt]at c);exact au.aH rfl (h.qO t l T us fr a0 s s1 s2 hg).br
  rw[aG hk];have eri:((.n L i k Rr,c):Tr×List jN).1.rt=(i:Int):=rfl;rw[hf]at h⊢;rw[eri];have hR:iH l (fill (.n L i k Rr) c):=by rw[hfill];exact hg.kQ
  have hA:(fill (.n L i k Rr) c).pP:=by rw[hfill];exact hg.pP
  obtain⟨r1,r2⟩:=kd hR;obtain⟨hin,hnt⟩:=oC r1;have eks:ks=lk c++(L.ino++k::Rr.ino)++rk c:=by rw[←hg.ino,←hfill,ou];rfl
  have hcl:c.length+ug (.n L i k Rr)≤4096:=by have:=CU c (.n L i k Rr);rw[hfill]at this;omega
  have hsrt:=hg.xA;have hknot:k∉lk c++L.ino:=λhx=>by
   rw[eks]at hsrt;have e:lk c++(L.ino++k::Rr.ino)++rk c=(lk c++L.ino)++k::(Rr.ino++rk c):=by simp
   rw[e]at hsrt;have:=(hsrt.B7 (m:=k)).1 k hx;rw[tc]at this;cases this
  have hera:ks.erase k=lk c++L.ino++(Rr.ino++rk c):=by
   have e:lk c++(L.ino++k::Rr.ino)++rk c=(lk c++L.ino)++k::(Rr.ino++rk c):=(by simp);rw[eks,e,Kk hknot]
  have hdT:T.cJ.Nodup:=(ka.1 hg.nd).1;have eids:T.cJ=lc c++(L.cJ++i::Rr.cJ)++rc c:=by rw[←hfill,lW];rfl
  refine ae (λc=>(by have c:((i:Int)== -1)=true:=c;simp at c)) λ_=>?_
  
  have aI:∀(w:World) (l1:List Nd) (a b:Tr) (j:Nat) (m:Key) (c1:List jN) (q1:Sl),iH l1 (fill (.n a j m b) c1)→(a=.e∨b=.e)→(fill (.n a j m b) c1).pP→(fill (.n a j m b) c1).cJ=T.cJ→Lk l1 5000→l1.length=l.length→
    lk c1++(a.ino++b.ino)++rk c1=ks.erase k→c1.length≤4096→
    au w0 S R w (aS q1 KI ((g_ c1).reverse++[(j:Int)])^af t [.ptr (some ⟨a0,0⟩),aY s,aE (T.rt+1),aE ks.length,aE rm]^aS s KN l1^af a0 [aY s1,aY s2,aE rm]^aS s1 KB us^aS s2 KI (fr.map λx:Nat=>(x:Int))^bg)→
    (aC (some ⟨t,0⟩) λq33=>
 ld [.sl] ⟨q33.b,q33.o+1⟩ λ(x34:Sl)=>
 idx x34 (j:Int) 5 λq35=>
 ld [.int .i64] ⟨q35.b,q35.o+2⟩ λ(x36:Int)=>
 join [.int .i64] (λJ37=>
 aq (x36==(-1:Int)) (
 aC (some ⟨t,0⟩) λq39=>
 ld [.sl] ⟨q39.b,q39.o+1⟩ λ(x40:Sl)=>
 idx x40 (j:Int) 5 λq41=>
 ld [.int .i64] ⟨q41.b,q41.o+3⟩ λ(x42:Int)=>
 J37 x42)<|
 J37 x36) λ(y38:Int)=>
 DV q1 none (some (i64.wrap (((q1.len:Nat):Int)-(1:Int)))) none 1 λs43=>
 call Tryz.prog uo [.lf (.ptr (some ⟨t,0⟩)),.lf (.sl s43),.lf (.int .i64 (j:Int)),.lf (.int .i64 y38)] [] λ(r44:Unit)=>
 aC (some ⟨t,0⟩) λq45=>
 ld [.int .i64] ⟨q45.b,q45.o+3⟩ λ(x46:Int)=>
 aC (some ⟨t,0⟩) λq47=>
 st ⟨q47.b,q47.o+3⟩ [aE (i64.wrap (x46-(1:Int)))]<|
 aC (some ⟨t,0⟩) λq48=>
 ld [.ptr] q48 λ(x49:bO)=>
 call Tryz.prog ui [.lf (.ptr x49),.lf (.int .i64 (j:Int))] [.lf (.int .i64)] λ(r50:Int)=>
 λw=>au w0 S R w (bs (r50=0) (tree rm t (ks.erase k)))) w:=by
   intro w l1 a b j m c1 q1 hR hab hA hids hlk hlen hino hc1 h;obtain⟨T',hroot,hgood⟩:=MU (us:=us) (fr:=fr) (k:=k) hg hR hab hA hids hlk hlen hino;obtain⟨r1,r2⟩:=kd hR;obtain⟨hin,hnt⟩:=oC r1;have el:Tree.lt l1 (j:Int)=a.rt:=by rw[Tree.lt,hnt]
   have er:bT l1 (j:Int)=b.rt:=(by rw[bT,hnt]);have hlq:=(h.rd (s:=q1)).2;have hjT:j∈T.cJ:=(by rw[←hids,lW];simp[Tr.cJ]);have hjl:=hg.kQ.lt j hjT;have hul:=hg.ul;refine ac (ah h rfl (iQ (s:=s) h hin (Lz h hin ?_)));rw[el];have h:au w0 S R w (aS q1 KI ((g_ c1).reverse++[(j:Int)])^(af t [.ptr (some ⟨a0,0⟩),aY s,aE (T.rt+1),aE ks.length,aE rm]^aS s KN l1)^af a0 [aY s1,aY s2,aE rm]^aS s1 KB us^aS s2 KI (fr.map λx:Nat=>(x:Int))^bg):=h.aI;refine aQ h (λ_=>aS q1 KI ((g_ c1).reverse++[(j:Int)])^(af t [.ptr (some ⟨a0,0⟩),aY s,aE (T.rt+1),aE ks.length,aE rm]^aS s KN l1)^af a0 [aY s1,aY s2,aE rm]^aS s1 KB us^aS s2 KI (fr.map λx:Nat=>(x:Int))^bg) (λy:Int=>y=(Bs a b).rt) (λ(y:Int) w hy h=>?_) ?_
   ·rw[hy];have hwl:((g_ c1).reverse++[(j:Int)]).length=c1.length+1:=by simp[g_]
    have e:i64.wrap (((q1.len:Nat):Int)-1)=(c1.length:Int):=(by rw[hlq,hwl,gi];omega);rw[e];have hcap:=pi (s:=q1) h;refine wE (s:=q1) h 0 c1.length q1.cap rfl rfl rfl rfl (by omega) (by omega) (by omega) (by omega) λs' _ _ h=>?_;have e2:(((g_ c1).reverse++[(j:Int)]).take c1.length).drop 0=(g_ c1).reverse:=by
     have:c1.length=(g_ c1).reverse.length:=(by simp[g_]);rw[this,DE];rfl
    have h:=h.eN (s:=s') (K:=KI) e2;have hkid:(Bs a b).rt=-1∨In l1 (Bs a b).rt:=by
     have rin:∀t:Tr,iH l1 t→t.rt=-1∨In l1 t.rt:=λt ht=>by
      cases t with
      |e=>exact .inl rfl
      |n L i k R=>exact .inr (oC ht).1
     cases a with
     |e=>exact rin b r1.2.2
     |n a1 i2 k2 a2=>exact rin _ r1.2.1
    refine bP (A:=af t [.ptr (some ⟨a0,0⟩),aY s,aE (T.rt+1),aE ks.length,aE rm]^aS s KN l1) (Q:=aV s' KI (g_ c1).reverse) (oq t (some ⟨a0,0⟩) s (T.rt+1) ks.length rm l1 s' (g_ c1).reverse j (Bs a b).rt (λx hx=>D9 r2 x (List.mem_reverse.1 hx)) hkid 5000 hlk (by omega) (by simp[g_];omega) (by omega)) h λ_ w h=>?_;rw[List.reverse_reverse,hroot]at h;refine ac (ah h rfl (ac (bh h rfl λw h=>?_)));dsimp only[dE,over]at h;have hkn:ks.length=(ks.erase k).length+1:=by rw[List.length_erase_of_mem hk];have:=List.length_pos_of_mem hk;omega
    have ew:i64.wrap ((ks.length:Int)-1)=((ks.erase k).length:Int):=(by rw[gi];omega);rw[ew]at h;refine ac (ah h rfl ?_);refine ar (MP a0 s1 s2 us (fr.map λx:Nat=>(x:Int)) rm (j:Int) ⟨by omega,by rw[eX];omega⟩ (by rw[eX];exact hg.on j hjT) (by rw[hul];exact hg.room) (by rw[fz];omega)) h λr w h=>?_;obtain⟨s2',h⟩:=h.lV;obtain⟨hr,h⟩:=h.aP;rw[eX]at h;have h:=h.eN (s:=s2') (K:=KI) (ys:=((fr++[j]).map λx:Nat=>(x:Int))) (by simp);exact au.aH hr (h.qO t _ T' (us.set j false) (fr++[j]) a0 s s1 s2' hgood).br
   ·refine ae (λc=>?_) λc=>?_
    ·have c:a.rt=-1:=cC;have ha:a=.e:=by
      cases a with
      |e=>rfl
      |n a1 i2 k2 a2=>simp only[Tr.rt]at c;omega
     refine ac (ah h rfl (iQ (s:=s) h hin (Oi h hin ?_)));exact⟨by rw[er,ha];rfl,h⟩
    ·have c:a.rt≠-1:=cC;refine⟨?_,h⟩;cases a with
     |e=>exact absurd rfl c
     |n a1 i2 k2 a2=>rfl
  have el:Tree.lt l (i:Int)=L.rt:=by rw[Tree.lt,hnt]
  have er:bT l (i:Int)=Rr.rt:=by rw[bT,hnt]
  have h:au w0 S R w (aS q KI ((g_ c).reverse++[(i:Int)])^af t [.ptr (some ⟨a0,0⟩),aY s,aE (T.rt+1),aE ks.length,aE rm]^aS s KN l^af a0 [aY s1,aY s2,aE rm]^aS s1 KB us^aS s2 KI (fr.map λx:Nat=>(x:Int))^bg):=(h.eN (s:=q) (K:=KI) (ys:=(g_ c).reverse++[(i:Int)]) rfl).aI;refine⟨_,λ_ _ h=>h,?_⟩;refine aQ h (λ_=>aS q KI ((g_ c).reverse++[(i:Int)])^af t [.ptr (some ⟨a0,0⟩),aY s,aE (T.rt+1),aE ks.length,aE rm]^aS s KN l^af a0 [aY s1,aY s2,aE rm]^aS s1 KB us^aS s2 KI (fr.map λx:Nat=>(x:Int))^bg) (λy:Bool=>y=(nE L&&nE Rr)) (λ(y:Bool) w hy h=>?_) ?_
  ·rw[hy];refine ae (λc2=>?_) λc2=>?_
   ·rw[d_]at c2;have hLn:L≠.e:=λe=>by rw[e]at c2;exact absurd c2.1 (by simp[nE])
    have hRn:Rr≠.e:=λe=>by rw[e]at c2;exact absurd c2.2 (by simp[nE])
    refine ac (ah h rfl (iQ (s:=s) h hin (Oi h hin ?_)));rw[er];simp only[ug]at hcl;refine ar (w9 t (some ⟨a0,0⟩) s ks.length rm l Rr r1.2.2 (by omega) (T.rt+1)) h λq2 w h=>?_;obtain⟨j,m,b,e1,d,e2,e3,e4⟩:=C5 Rr (.R L i k::c) hRn;have hfl:fill (.n .e j m b) d=Rr:=by
     have h1:=uK Rr (.R L i k::c);rw[e1,e2,zm]at h1;obtain⟨j',m',b',e1',d',e2',_⟩:=C5 Rr [] hRn;have h2:=uK Rr [];have h3:=tg Rr [];have h4:=tg Rr (.R L i k::c);have key:∀(t:Tr) (c:List jN),f_ t c=((f_ t []).1,(f_ t []).2++c):=by
      have:∀(t:Tr) (c c0:List jN),f_ t (c0++c)=((f_ t c0).1,(f_ t c0).2++c):=by
       intro t
       induction t with
       |e=>intro c c0;rfl
       |n l i x r ihl _=>
        intro c c0;cases l with
        |e=>rfl
        |n a1 i1 x1 b1=>
         simp only[f_];exact ihl c (.L i x r::c0)
      intro t c;have:=this t c [];simpa using this
     have hk2:=key Rr (.R L i k::c);have ed:d=(f_ Rr []).2:=by
      have:(f_ Rr (.R L i k::c)).2=(f_ Rr []).2++(.R L i k::c):=(by rw[hk2]);rw[e2]at this;exact List.append_cancel_right this
     have et:(f_ Rr []).1=.n .e j m b:=by
      have:(f_ Rr (.R L i k::c)).1=(f_ Rr []).1:=(by rw[hk2]);rw[←this,e1]
     rw[ed,←et];exact h2
    have hway:=tg Rr (.R L i k::c);rw[e1,e2]at hway;have hll:kN Rr=(g_ d).reverse++[(j:Int)]:=by
     simp only[sP,g_,me,List.reverse_append,jF]at hway;exact(List.append_cancel_left hway).symm
    have hRino:Rr.ino=m::(b.ino++rk d):=(by rw[←hfl,ou,e3];simp[Tr.ino]);have hRids:Rr.cJ=j::(b.cJ++rc d):=(by rw[←hfl,lW,e4];simp[Tr.cJ]);have hszd:d.length+ug b+1≤ug Rr:=(by have:=CU d (.n .e j m b);rw[hfl]at this;simp only[ug]at this;omega);have hRR:iH l (fill (.n .e j m b) d):=(by rw[hfl];exact r1.2.2);obtain⟨u1,u2⟩:=kd hRR;obtain⟨hjn,hjt⟩:=oC u1;have hlq2:=(h.rd (s:=q2)).2;have hql:q2.len=d.length+1:=(by rw[hlq2,hll];simp[g_]);have ew:i64.wrap (((q2.len:Nat):Int)-1)=(d.length:Int):=(by rw[hql,gi];omega);rw[ew];have hat:(kN Rr)[((d.length:Nat):Int).toNat]?=some (j:Int):=by
     rw[hll,eX];have:d.length=(g_ d).reverse.length:=by simp[g_]
     rw[this];simp
    refine bS (s:=q2) h (by omega) (by rw[hll];simp[g_]) (dP h q2 _ hat rfl ?_);refine aM h λw h=>ac (ac (ah h rfl (ah h rfl (iQ (s:=s) h hjn (Xd h hjn (iQ (s:=s) h hin ?_))))));have ekj:jJ l (j:Int)=m:=by rw[jJ,hjt]
    rw[ekj];refine mG h s i 0 (nth l (i:Int)) (m.1,m.2,L.rt,Rr.rt,max L.ht Rr.ht+1) (by have:=oy hin;rwa[eX]at this) (by rw[eX];rfl) (by simp[Ks.mk]) (by simp[Ks.mk]) (by rw[hnt];rfl) λw h=>?_;have hql1:=(h.rd (s:=q2)).2;have h:=h.eN (s:=s) (K:=KN) (ys:=l.set i (m.1,m.2,L.rt,Rr.rt,max L.ht Rr.ht+1)) rfl;refine dF (s:=q) (x:=q2) h rfl (by rw[hll];simp[g_];omega) λs32 w _ h=>?_;have hil:i<l.length:=hg.kQ.lt i (by rw[eids];simp);have hR1:iH (l.set i (m.1,m.2,L.rt,Rr.rt,max L.ht Rr.ht+1)) (fill (.n L i m Rr) c):=by
     have hd2:=hdT;rw[eids]at hd2;simp only[ka,lD,eQ,ec]at hd2;obtain⟨⟨hd3,⟨hd4,⟨hd5,hd6⟩,hd7⟩,hd8⟩,hd9,hd10⟩:=hd2;have ne:∀p,(p∈lc c∨p∈L.cJ∨p∈Rr.cJ∨p∈rc c)→(l.set i (m.1,m.2,L.rt,Rr.rt,max L.ht Rr.ht+1))[p]?=l[p]?:=λp hp=>by
      refine xZ (show i≠p from λe=>?_);subst e;rcases hp with hp|hp|hp|hp
      ·exact hd8 i hp i (.inr (.inl rfl)) rfl
      ·exact hd7 i hp i (.inl rfl) rfl
      ·exact hd5 hp
      ·exact hd10 i (.inr (.inr (.inl rfl))) i hp rfl
     refine AJ (t:=.n L i k Rr) rfl rfl hR ⟨by rw[sD hil],r1.2.1.frame λp hp=>ne p (.inr (.inl hp)),r1.2.2.frame λp hp=>ne p (.inr (.inr (.inl hp)))⟩ λp hp=>ne p (hp.imp (λx=>x) λx=>.inr (.inr x))
    have hA1:(fill (.n L i m Rr) c).pP:=by
     have hav:(Tr.n L i k Rr).pP:=mY hA;exact yY (t:=.n L i k Rr) rfl ⟨hav.1,hav.2.1,hav.2.2⟩ hA
    have hT1:fill (.n L i m Rr) c=fill (.n .e j m b) (d++.R L i m::c):=(by rw[zm,hfl];rfl);have hlk1:Lk (l.set i (m.1,m.2,L.rt,Rr.rt,max L.ht Rr.ht+1)) 5000:=by
     have hx:=hg.lk (i:Int) hin;simp only[Tree.lt,bT,hh,hnt]at hx;have:=hg.lk.set (C:=5000) (gQ _) (i:=(i:Int)) hin (x:=(m.1,m.2,L.rt,Rr.rt,max L.ht Rr.ht+1)) hx.1 hx.2.1 hx.2.2;rwa[eX]at this
    have h:=h.eN (s:=s32) (K:=KI) (ys:=(g_ (d++.R L i m::c)).reverse++[(j:Int)]) (by rw[hll];simp[g_,jN.i]);refine aI w (l.set i (m.1,m.2,L.rt,Rr.rt,max L.ht Rr.ht+1)) .e b j m (d++.R L i m::c) s32 (by rw[←hT1];exact hR1) (.inl rfl) (by rw[←hT1];exact hA1) ?_ hlk1 rp ?_ (by simp;omega) h.aI
    ·rw[←hT1,lW,eids];rfl
    ·rw[hera,GU,HM,e3,hRino];simp[lk,rk,Tr.ino]
   ·have hab:L=.e∨Rr=.e:=by
     cases L with
     |e=>exact .inl rfl
     |n l1 i1 k1 l2=>cases Rr with
      |e=>exact .inr rfl
      |n l3 i3 k3 l4=>cases c2
    simp only[ug]at hcl;exact aI w l L Rr i k c q hR hab hA (by rw[hfill]) hg.lk rfl (by rw[hera];simp) (by omega) h
  ·refine ac (ah h rfl (iQ (s:=s) h hin (Lz h hin ?_)));rw[el];refine ae (λc2=>?_) λc2=>?_
   ·have c2:L.rt≠-1:=gK;refine ac (ah h rfl (iQ (s:=s) h hin (Oi h hin ?_)));rw[er];refine⟨?_,h⟩;cases L with
    |e=>exact absurd rfl c2
    |n l1 i1 k1 l2=>
     cases Rr with
     |e=>simp[nE,Tr.rt]
     |n l3 i3 k3 l4=>simp[nE,Tr.rt]
   ·have c2:L.rt=-1:=gK;refine⟨?_,h⟩;cases L with
    |e=>rfl
    |n l1 i1 k1 l2=>simp only[Tr.rt]at c2;omega
end lP

namespace ff
open _root_.Go.X.Tree yR BI iU kR lP
def spine:Tr→List Tr
 |.e=>[]
 |.n l i k r=>.n l i k r::spine l
def RE:Tr→List Key
 |.e=>[]
 |.n _ _ k r=>k::r.ino
def u0(st:List Tr):List Key:=st.reverse.flatMap RE
theorem tw:∀t:Tr,u0 (spine t)=t.ino
 |.e=>rfl
 |.n l i k r=>by
  have:=tw l;simp only[spine,u0,List.reverse_cons,List.flatMap_append,Ay,List.flatMap_nil,Tr.ino,RE]at*;rw[this];simp
theorem I8(a b):u0 (a++b)=u0 b++u0 a:=by simp[u0]
def Ee(st:List Tr):List Int:=st.map Tr.rt
theorem tC:∀t:Tr,Ee (spine t)=kN t
 |.e=>rfl
 |.n l i k r=>by
  have:=tC l;simp only[Ee,spine,kJ,kN,Tr.rt]at*;rw[this]
theorem yH:∀(t:Tr),∀x∈spine t,∃l i k r,x=.n l i k r
 |.e,x,h=>by simp[spine]at h
 |.n l i k r,x,h=>by
  simp only[spine,ec]at h;rcases h with rfl|h
  ·exact⟨l,i,k,r,rfl⟩
  ·exact yH l x h
theorem xz:∀{t:Tr},iH l t→∀x∈spine t,iH l x
 |.e,_,x,h=>by simp[spine]at h
 |.n a i k r,h,x,hx=>by
  simp only[spine,ec]at hx;rcases hx with rfl|hx
  ·exact h
  ·exact xz h.2.1 x hx
theorem IV(st)(h:∀x∈st,∃l i k r,x=.n l i k r):st.length≤(u0 st).length:=by
 induction st with
 |nil=>simp
 |cons x st ih=>
  have:=ih λy hy=>h y (by simp[hy]);obtain⟨l,i,k,r,rfl⟩:=h x (by simp);have e:u0 (.n l i k r::st)=u0 st++(k::r.ino):=by simp[u0,RE]
  rw[e];simp;omega
def vQ(n:Nat):Fv:=.mk (.func jQ) [] [V1.enc (.lf (.ptr (some ⟨n,0⟩)))]
theorem jd(p):bu (Qb p) bg (λf=>ex λn=>bs (f=vQ n) (af n [.ptr p])):=
 bC λw S R h=>by
  refine aD h λn1 w h=>?_;exact au.ie n1 (au.aH rfl h.br)
theorem DZ:∀t:Tr,ug t=t.ino.length
 |.e=>rfl
 |.n l i k r=>by simp[ug,Tr.ino,DZ l,DZ r];omega
theorem lQ(n t)(rm:Int)(ks):Iter Tryz.prog (vQ n) (af n [.ptr (some ⟨t,0⟩)]^tree rm t ks) [.agg [.int .u64,.int .u64]] ks:=by
 intro y I D hy;refine tT.g (f:=jQ) (args:=[.lf (.fn y)]) (caps:=[.lf (.ptr (some ⟨n,0⟩))]) (bC (c:=XH y ⟨n,0⟩) λw0 S R h=>?_);obtain⟨l,T,us,fr,a,s,s1,s2,hg,h⟩:=h.tree rm t;obtain⟨b1,b2,b3,b4⟩:=hg.small;have hino:=hg.ino;refine ah h rfl ?_;refine aK (AM t (some ⟨a,0⟩) s ks.length rm l T hg.kQ b1) h λw h=>?_;refine ae (λc=>?_) λc=>?_
 ·have c:T.rt=-1:=cC;have hT:T=.e:=by
   cases T with
   |e=>rfl
   |n L i k R=>simp only[Tr.rt]at c;omega
  have hk:ks.length=0:=by rw[←hino,hT];rfl
  have h:=(h.qO t l T us fr a s s1 s2 hg);have h:au _ _ _ _ (I 0^af n [.ptr (some ⟨t,0⟩)]^tree rm t ks):=h.aI;rw[hk];exact(h.vz D).aI
 refine aM h λw h=>ah h rfl (ah h rfl ?_);refine ar (AM t (some ⟨a,0⟩) s ks.length rm l T hg.kQ b1) h λr w h=>?_;obtain⟨hr,h⟩:=h.aP;rw[hr];refine aN h rfl ?_;refine ar (w9 t (some ⟨a,0⟩) s ks.length rm l T hg.kQ b2 (T.rt+1)) h λq w h=>?_;have h:=h.eN (s:=q) (K:=KI) (ys:=Ee (spine T)) (tC T).symm;have h:au w0 S R w (aS q KI (Ee (spine T))^(af t [.ptr (some ⟨a,0⟩),aY s,aE (T.rt+1),aE ks.length,aE rm]^aS s KN l)^af a [aY s1,aY s2,aE rm]^aS s1 KB us^aS s2 KI (fr.map λx:Nat=>(x:Int))^af n [.ptr (some ⟨t,0⟩)]^I 0):=h.aI;refine fY (λ(q:Sl) (x:Nat×List Tr)=>aS q KI (Ee x.2)^(af t [.ptr (some ⟨a,0⟩),aY s,aE (T.rt+1),aE ks.length,aE rm]^aS s KN l)^af a [aY s1,aY s2,aE rm]^aS s1 KB us^aS s2 KI (fr.map λx:Nat=>(x:Int))^af n [.ptr (some ⟨t,0⟩)]^I x.1)
  (λ(_:Sl) (x:Nat×List Tr)=>ks.drop x.1=u0 x.2∧(∀z∈x.2,∃l i k r,z=.n l i k r)∧(∀z∈x.2,iH l z)∧x.1≤ks.length) (λ(_:Sl) (x:Nat×List Tr)=>ks.length-x.1) (0,spine T) h ⟨by rw[tw,hino];rfl,yH T,xz hg.kQ,gJ _⟩ ?_
 rintro K (q:Sl) ⟨i,st⟩ w ⟨hd,hn,hrep,hle⟩ h hK;dsimp only at hd hn hrep hle h hK⊢;have hlq:=(h.rd (s:=q)).2;have hst:=IV st hn;rw[←hd,nN]at hst;have hrl:(Ee st).length=st.length:=by simp[Ee]
 refine ae (λc=>?_) λc=>?_
 ·have c:((q.len:Nat):Int)>0:=bV c;have hne:st≠[]:=λe=>by
   have e2:(Ee st).length=0:=(c_ (λz=>(Ee z).length) e).trans rfl;omega
  obtain⟨f,z,hfz⟩:∃f z,st=f++[z]:=⟨st.dropLast,st.getLast hne,(N0 hne).symm⟩;obtain⟨L,j,m,Rr,hz⟩:=hn z (by rw[hfz];simp);have hRz:iH l (.n L j m Rr):=by rw[←hz];exact hrep z (by rw[hfz];simp)
  obtain⟨hin,hnt⟩:=oC hRz;have er:bT l (j:Int)=Rr.rt:=by rw[bT,hnt]
  have ek:jJ l (j:Int)=m:=by rw[jJ,hnt]
  have hfl:st.length=f.length+1:=by rw[hfz];simp
  have hrs:Ee st=Ee f++[(j:Int)]:=by rw[hfz,hz];simp[Ee,Tr.rt]
  have hrf:(Ee f).length=f.length:=by simp[Ee]
  have e:i64.wrap (((q.len:Nat):Int)-1)=(f.length:Int):=by rw[gi];omega
  rw[e];refine bS (s:=q) h (by omega) (by omega) (dP h q ((f.length:Nat):Int).toNat (y:=(j:Int)) (by rw[hrs,eX,←hrf];simp) rfl ?_);have hcap:=pi (s:=q) h;refine wE (s:=q) h 0 f.length q.cap rfl rfl rfl rfl (by omega) (by omega) (by omega) (by omega) λs11 _ _ h=>?_;have h:=h.eN (s:=s11) (K:=KI) (ys:=Ee f) (by rw[hrs,←hrf,DE];rfl);have hks:ks.drop i=m::(Rr.ino++u0 f):=by rw[hd,hfz,I8,hz];simp[u0,RE]
  have hki:ks[i]?=some m:=by
   have:=c_ (λz=>z[0]?) hks;simpa using this
  have hil:i<ks.length:=(iy.1 hki).1;refine ah h rfl (ac (ah h rfl (iQ (s:=s) h hin (Xd h hin ?_))));rw[ek];have ht:vq Tryz.prog y [.agg (Ks.mk [.int .u64,.int .u64] m)] [.lf .bool] (I i) (λc=>cond c (I (i+1)) D):=hy i m hki;refine mT ht h λc w h=>?_;cases c with
  |false=>
   refine ae (λc=>?_) λc=>by cases c
   have h:au _ _ _ _ (D^_):=h;have h:=(h.qO t l T us fr a s s1 s2 hg);have h:au _ _ _ _ (D^af n [.ptr (some ⟨t,0⟩)]^tree rm t ks):=h.aI;exact(h.yr (I ks.length)).aI
  |true=>
   refine ae (λc=>by cases c) λc=>?_;have h:au _ _ _ _ (I (i+1)^_):=h;refine aM h λw h=>ah h rfl (ah h rfl (ac (ah h rfl (iQ (s:=s) h hin (Oi h hin ?_)))));rw[er];have hsz:ug Rr≤4096:=by
    have h1:=c_ List.length hks;rw[nN]at h1;have h2:=DZ Rr;simp at h1;omega
   refine ar (w9 t (some ⟨a,0⟩) s ks.length rm l Rr hRz.2.2 hsz (T.rt+1)) h λq2 w h=>?_;have hl2:(kN Rr).length≤4096:=by
    have h1:=IV (spine Rr) (yH Rr);rw[tw]at h1;have h2:(kN Rr).length=(spine Rr).length:=(by rw[←tC];simp[Ee]);have h3:=DZ Rr;omega
   refine dF (s:=s11) (x:=q2) h rfl (by omega) λs25 w _ h=>?_;have h:=h.eN (s:=s25) (K:=KI) (ys:=Ee (f++spine Rr)) (by rw[←tC];simp[Ee]);refine hK s25 (i+1,f++spine Rr) w ⟨?_,λz hz=>?_,λz hz=>?_,by show i+1≤_;omega⟩ h.aI (by show _-(i+1)<_-i;omega)
   ·show ks.drop (i+1)=u0 (f++spine Rr);rw[I8,tw];have:=c_ (λz=>z.drop 1) hks;simpa using this
   ·rcases eQ.1 hz with hz|hz
    ·exact hn z (by rw[hfz];simp[hz])
    ·exact yH Rr z hz
   ·rcases eQ.1 hz with hz|hz
    ·exact hrep z (by rw[hfz];simp[hz])
    ·exact xz hRz.2.2 z hz
 ·have c:¬((q.len:Nat):Int)>0:=bY c;have hst0:st=[]:=jE (by omega);rw[hst0]at hd;have hi:i=ks.length:=by
   have:=c_ List.length hd;rw[nN]at this;simp[u0]at this;omega
  rw[hi]at h;have h:=(h.qO t l T us fr a s s1 s2 hg);have h:au _ _ _ _ (I ks.length^af n [.ptr (some ⟨t,0⟩)]^tree rm t ks):=h.aI;exact(h.vz D).aI
def nW(ks:List Key):Key×Bool:=match ks with
 |[]=>((0,0),false)
 |k::_=>(k,true)
theorem C_(t)(rm:Int)(ks):bu (TN (some ⟨t,0⟩)) (tree rm t ks) (λr=>bs (r=nW ks) (tree rm t ks)):=
 Tl λw S R h=>by
  refine aD h λn1 w h=>?_;refine aD h λn2 w h=>?_;refine aQ h (λ_=>af n1 [aB (0:Int),aB (0:Int)]^af n2 [bc false]^tree rm t ks) (λ_=>ks=[]) (λy w hv h=>?_) ?_
  ·refine az h (by rfl) λw h=>az h (by rfl) λw h=>?_;refine aw (b:=n1) (x:=((0,0):Int×Int)) h rfl (ah h rfl ?_);refine aT h λw h=>?_;exact au.aH (by rw[hv];rfl) h.aI
  ·refine ar (jd _) (h.le (aJ _)) λf w h=>?_;obtain⟨n,h⟩:=h.lV;obtain⟨hf,h⟩:=h.aP;rw[hf];have h:=(h.take (af n1 [aB (0:Int),aB (0:Int)]^af n2 [bc false])).i_ (p:=(0:Nat)=0) rfl;refine pw (lQ n t rm ks) (λi=>bs (i=0) (af n1 [aB (0:Int),aB (0:Int)]^af n2 [bc false])) (λj=>bs (j=1) (af n1 (Ks.mk KR (nW ks).1)^af n2 [bc (nW ks).2])) h ?_ ?_ ?_
   ·rintro i (x:Key) hx w S R B7 next jump rdy bsy hmid hnext hjump h
    refine aD h λn10 w h=>az h (by rfl) λw h=>?_;refine hmid h λw h=>?_;have h:=h.take (bs (i=0) (af n1 [aB (0:Int),aB (0:Int)]^af n2 [bc false]));obtain⟨hi,h⟩:=h.aP;have hv:nW ks=(x,true):=by
     rw[hi]at hx;cases ks with
     |nil=>cases hx
     |cons y l=>cases hx;rfl
    rw[hv]at hjump;refine aw (b:=n10) (x:=x) h rfl ?_;refine az h (by rfl) λw h=>az h (by rfl) λw h=>?_;have h:=(h.take (af n1 (Ks.mk KR x)^af n2 [bc true])).i_ (p:=1=1) rfl;exact hjump 1 (by decide) h
   ·intro w h;have h:=h.take (bs (ks.length=0) (af n1 [aB (0:Int),aB (0:Int)]^af n2 [bc false]));obtain⟨hno,h⟩:=h.aP;exact⟨jE hno,h.aI⟩
   ·intro j w hj h;have h:=h.take (bs (j=1) (af n1 (Ks.mk KR (nW ks).1)^af n2 [bc (nW ks).2]));obtain⟨hj1,h⟩:=h.aP;rw[hj1];refine aw (b:=n1) (x:=(nW ks).1) h rfl (ah h rfl ?_);refine aT h λw h=>?_;exact au.aH rfl h.aI
end ff

namespace lL
open bH fL _root_.Go.X.Tree iU kR
abbrev Sg:=Int×Int×Int×Int×Bool
abbrev Cf:=Int×Int×Int×Int×Int×Int×Bool×Int×Int
abbrev KC:Ks:=[.int .i64,.int .i64,.int .i64,.int .i64,.int .u64,.int .u64,.bool,.int .i64,.int .i64]
abbrev KS:Ks:=[.int .i64,.int .u64,.int .i64,.int .u64,.bool]
abbrev cQ(c:Cf):Int:=c.1
abbrev cF(c:Cf):Int:=c.2.1
abbrev cL(c:Cf):Int:=c.2.2.1
abbrev cW(c:Cf):Int:=c.2.2.2.1
abbrev cH(c:Cf):Int:=c.2.2.2.2.1
abbrev cR(c:Cf):Int:=c.2.2.2.2.2.1
abbrev cD(c:Cf):Bool:=c.2.2.2.2.2.2.1
abbrev dZ(c:Cf):Int:=c.2.2.2.2.2.2.2.1
abbrev eU(c:Cf):Int:=c.2.2.2.2.2.2.2.2
abbrev sK(s:Sg):Int:=s.1
abbrev R5(s:Sg):Int:=s.2.1
abbrev lM(s:Sg):Int:=s.2.2.1
abbrev ve(s:Sg):Int:=s.2.2.2.1
abbrev sAg(s:Sg):Bool:=s.2.2.2.2
def may(c:Cf):Bool:=decide (100≤cQ c∧cQ c≤65536)&&(decide (100≤cF c∧cF c≤65536)&&(decide (1≤cL c∧cL c≤512)&&(decide (1≤cW c∧cW c≤512)&&(decide (cH c≤4611686018427387904)&&(decide (1≤dZ c∧dZ c≤1073741824)&&decide (100≤eU c∧eU c≤9000))))))
structure yo(c:Cf):Prop where
 q:100≤cQ c∧cQ c≤65536
 f:100≤cF c∧cF c≤65536
 l:1≤cL c∧cL c≤512
 w:1≤cW c∧cW c≤512
 h:0≤cH c∧cH c≤4611686018427387904
 r:U (cR c)
 cap:1≤dZ c∧dZ c≤1073741824
 bt:100≤eU c∧eU c≤9000
theorem C8(h:may c=true)(h0:0≤cH c)(hr:U (cR c)):yo c:=by
 simp only[may,d_,iZ]at h;exact⟨h.1,h.2.1,h.2.2.1,h.2.2.2.1,⟨h0,h.2.2.2.2.1⟩,hr,h.2.2.2.2.2.1,h.2.2.2.2.2.2⟩
structure Fl where
 cr:Int
 nx:Int
 si:Int
 sg:List Sg
structure Qm where
 c:Cf
 fl:Nat→Option Fl
 lv:LV
 ks:List Key
 n:Int
structure oi(s:Sg):Prop where
 fr:U (R5 s)
 ln:1≤lM s∧lM s≤65536
 st:U (ve s)
structure YF(i:Nat)(f:Fl):Prop where
 cr:-65536<f.cr∧f.cr≤65536
 nx:U f.nx
 si:U f.si
 sg:∀s∈f.sg,sK s=i∧oi s
def du(f:Fl):Int:=match f.sg with
 |[]=>f.nx
 |s::_=>if ve s>f.nx then ve s else f.nx
def yf(x:Option Fl):Int:=match x with
 |none=>0
 |some f=>f.sg.length
def F1(fl:Nat→Option Fl):Nat→Int
 |0=>0
 |n+1=>F1 fl n+yf (fl n)
def nU(v:LV)(i:Nat):Prop:=(i:Int)∈v.1++v.2
structure jv(v:Qm):Prop where
 cf:yo v.c
 lv:wF v.lv
 th:∀i,nU v.lv i→∃f,v.fl i=some f
 fl:∀i f,v.fl i=some f→i<8∧YF i f
 ks:∀k,k∈v.ks↔∃(i:Nat) (f:Fl),v.fl i=some f∧f.sg≠[]∧¬nU v.lv i∧k=(du f,(i:Int))
 xA:Ba v.ks
 n:v.n=F1 v.fl 8
 le:v.n≤512
def kz(fl:Nat→Option Fl)(i:Nat)(x:Option Fl):Nat→Option Fl:=λj=>if j=i then x else fl j
theorem cA(fl i x):kz fl i x i=x:=by simp[kz]
theorem eG(fl x)(h:j≠i):kz fl i x j=fl j:=by simp[kz,h]
theorem Gw(x):0≤yf x:=by unfold yf;split<;>omega
theorem D0(fl):∀n,0≤F1 fl n
 |0=>gQ 0
 |n+1=>by have:=D0 fl n;have:=Gw (fl n);simp only[F1];omega
theorem O9(fl i x):∀n,F1 (kz fl i x) n=F1 fl n+if i<n then yf x-yf (fl i)else 0
 |0=>by simp[F1]
 |n+1=>by
  simp only[F1,O9 fl i x n];by_cases h:n=i
  ·subst h;rw[cA];simp;omega
  ·rw[eG _ _ h];by_cases h2:i<n
   ·rw[aG h2,aG (by omega)];omega
   ·rw[ay h2,ay (by omega)];omega
theorem O8(fl):∀{n i:Nat},i<n→yf (fl i)≤F1 fl n
 |n+1,i,h=>by
  have h1:=Gw (fl n);have h2:=D0 fl n;simp only[F1];by_cases e:i=n
  ·subst e;omega
  ·have:=O8 fl (n:=n) (i:=i) (by omega);omega
theorem jv.len(h:jv v)(hf:v.fl i=some f):(f.sg.length:Int)≤v.n∧f.sg.length≤512:=by
 have h1:=O8 v.fl (h.fl i f hf).1;have h2:=h.n;have h3:=h.le;rw[hf]at h1;have h1:(f.sg.length:Int)≤F1 v.fl 8:=h1;omega
theorem jv.n0(h:jv v):0≤v.n:=by rw[h.n];exact D0 _ _
def fx(v:Qm)(i:Nat):Int:=if bX v.lv i≠0 then bX v.lv i else match v.fl i with
 |none=>0
 |some f=>if f.sg=[]then 0 else 3
theorem oz{v:LV}{i:Nat}:bX v i≠0↔nU v i:=by
 rw[ne_eq,ma];unfold nU;exact xj
theorem z8:fx v i=0↔¬nU v.lv i∧∀f,v.fl i=some f→f.sg=[]:=by
 unfold fx;split
 ·rename_i h;have h2:=oz.1 h;exact⟨λe=>absurd e h,λe=>absurd h2 e.1⟩
 ·rename_i h;have h2:¬nU v.lv i:=λe=>h (oz.2 e);cases hf:v.fl i with
  |none=>exact⟨λ_=>⟨h2,λf hh=>by cases hh⟩,λ_=>rfl⟩
  |some f=>
   simp only;split
   ·rename_i h3;exact⟨λ_=>⟨h2,λg hg=>by cases hg;exact h3⟩,λ_=>rfl⟩
   ·rename_i h3;exact⟨λe=>(by cases e),λe=>absurd (e.2 f rfl) h3⟩
theorem vX:fx v i=3↔¬nU v.lv i∧∃f,v.fl i=some f∧f.sg≠[]:=by
 unfold fx;split
 ·rename_i h;have h2:=oz.1 h;refine⟨λe=>?_,λe=>absurd h2 e.1⟩;unfold bX at e;split at e
  ·cases e
  ·split at e<;>cases e
 ·rename_i h;have h2:¬nU v.lv i:=λe=>h (oz.2 e);cases hf:v.fl i with
  |none=>exact⟨λe=>(by cases e),λ⟨_,f,hh,_⟩=>(by cases hh)⟩
  |some f=>
   simp only;split
   ·rename_i h3;exact⟨λe=>(by cases e),λ⟨_,g,hg,h4⟩=>by cases hg;exact absurd h3 h4⟩
   ·rename_i h3;exact⟨λ_=>⟨h2,f,rfl,h3⟩,λ_=>rfl⟩
def idle(v:Qm)(i:Nat)(qM aj:Int):Bool:=match v.fl i with
 |none=>false
 |some f=>decide (fx v i=0)&&decide (bJ f.si qM≤aj)
abbrev bM(v:Qm)(aj:Int):Qm:={v with fl:=λi=>if idle v i 3000000000 aj then none else v.fl i}
theorem qg{qM aj:Int}(h:idle v i qM aj=true):∃f,v.fl i=some f∧f.sg=[]∧¬nU v.lv i:=by
 unfold idle at h;split at h
 ·cases h
 ·rename_i f hf;rw[d_,iZ]at h;have:=z8.1 h.1;exact⟨f,hf,this.2 f hf,this.1⟩
theorem Jh:∀n,(∀i,i<n→yf (fl i)=yf (gl i))→F1 fl n=F1 gl n
 |0,_=>rfl
 |n+1,h=>by simp only[F1,Jh n λi hi=>h i (by omega),h n (by omega)]
theorem jv.collect{v:Qm}(h:jv v)(aj:Int):jv (bM v aj) where
 cf:=h.cf
 lv:=h.lv
 th i hi:=by
  obtain⟨f,hf⟩:=h.th i hi;refine⟨f,?_⟩;show(if _ then _ else _)=_;rw[ay,hf];intro e;obtain⟨_,_,_,h3⟩:=qg e;exact h3 hi
 fl i f hf:=by
  have hf:(if idle v i 3000000000 aj then none else v.fl i)=some f:=hf;split at hf
  ·cases hf
  ·exact h.fl i f hf
 ks k:=by
  rw[show(bM v aj).ks=v.ks from rfl,h.ks];constructor
  ·rintro⟨i,f,h1,h2,h3,h4⟩;refine⟨i,f,?_,h2,h3,h4⟩;show(if _ then _ else _)=_;rw[ay,h1];intro e;obtain⟨g,hg,h5,_⟩:=qg e;rw[h1]at hg;cases hg;exact h2 h5
  ·rintro⟨i,f,h1,h2,h3,h4⟩;have h1:(if idle v i 3000000000 aj then none else v.fl i)=some f:=h1;split at h1
   ·cases h1
   ·exact⟨i,f,h1,h2,h3,h4⟩
 xA:=h.xA
 n:=by
  show v.n=_;rw[h.n];refine Jh 8 λi _=>?_;show _=yf (if _ then _ else _);split
  ·rename_i e;obtain⟨f,hf,h5,_⟩:=qg e;rw[hf];simp[yf,h5]
  ·rfl
 le:=h.le
def iJ(v:Qm)(s:Sg)(aj:Int):Int:=
 if v.n≥cL v.c then 2
 else if(∃f,v.fl (sK s).toNat=some f∧(f.sg.length:Int)≥cW v.c)then 3
 else if ve s>bJ aj (cH v.c)∧cD v.c=true then 4 else 0
def drawn(v:Qm)(s:Sg)(aj:Int):Sg:=(sK s,R5 s,lM s,(if bJ aj (cH v.c)<ve s then bJ aj (cH v.c)else ve s),sAg s)
def fS(v:Qm)(i:Nat)(aj:Int):Fl:=match v.fl i with
 |none=>⟨cF v.c,0,0,[]⟩
 |some f=>if fx v i≠0 then f else{f with cr:=if idle v i 40000000 aj then(if cQ v.c>f.cr then cQ v.c else f.cr)else f.cr,si:=0}
def kL(v:Qm)(i:Nat):LV:=if fx v i≠0 then v.lv else(kH v.lv i true).2
abbrev eS(v:Qm)(i:Nat)(aj:Int):Qm:={v with fl:=kz v.fl i (some (fS v i aj)),lv:=kL v i}
def kS(v:Qm)(i:Nat)(s:Sg):Qm:=match v.fl i with
 |none=>v
 |some f=>{v with fl:=kz v.fl i (some {f with sg:=f.sg++[s]}),n:=v.n+1}
def fG(v:Qm)(s:Sg)(aj:Int):(Int×Int)×Qm:=
 if ¬(0≤sK s∧sK s≤7)then((0,8),v)
 else if ¬(1≤lM s∧lM s≤65536)then((0,1),v)
 else if iJ (bM v aj) s aj=0 then((0,0),kS (eS (bM v aj) (sK s).toNat aj) (sK s).toNat (drawn v s aj))
 else((iJ (bM v aj) s aj,0),bM v aj)
theorem G8(hi:i<8)(h:¬nU v i):(kH v i true)=(0,(v.1++[(i:Int)],v.2)):=by
 have hp:bX v i=0:=by
  cases hh:decide (bX v i=0)with
  |true=>exact bV hh
  |false=>exact absurd (oz.1 (bY hh)) h
 rw[kH,ay (by omega),ay (by rw[hp];simp),aG rfl]
theorem RN(hi:i<8)(h:¬nU v i):(kH v i false)=(0,(v.1,v.2++[(i:Int)])):=by
 have hp:bX v i=0:=by
  cases hh:decide (bX v i=0)with
  |true=>exact bV hh
  |false=>exact absurd (oz.1 (bY hh)) h
 rw[kH,ay (by omega),ay (by rw[hp];simp),ay (by simp)]
theorem CZ(hi:i<8):nU (kL v i) j↔nU v.lv j∨(j=i∧fx v i=0):=by
 unfold kL;split
 ·rename_i h;exact⟨.inl,λe=>e.elim id λe=>absurd e.2 h⟩
 ·rename_i h;have h0:fx v i=0:=by omega
  have hn:=(z8.1 h0).1;rw[G8 hi hn];unfold nU;simp only[eQ,j_];constructor
  ·rintro((h|h)|h)
   ·exact .inl (.inl h)
   ·exact .inr ⟨by omega,h0⟩
   ·exact .inl (.inr h)
  ·rintro((h|h)|⟨rfl,_⟩)
   ·exact .inl (.inl h)
   ·exact .inr h
   ·exact .inl (.inr rfl)
theorem NC(h:wF v.lv):wF (kL v i):=by
 unfold kL;split
 ·exact h
 ·exact h.push _ _
theorem A7(v i)(aj:Int):(fS v i aj).sg=match v.fl i with|none=>[]|some f=>f.sg:=by
 unfold fS;cases v.fl i with
 |none=>rfl
 |some f=>simp only;split<;>rfl
theorem Pw(h:jv v)(i)(aj:Int):YF i (fS v i aj):=by
 unfold fS;have hc:=h.cf;cases hf:v.fl i with
 |none=>exact⟨by have:=hc.f;simp only;omega,bm 0,bm 0,λs hs=>by cases hs⟩
 |some f=>
  have hk:=(h.fl i f hf).2;simp only;split
  ·exact hk
  ·refine⟨?_,hk.nx,bm 0,hk.sg⟩;have h1:=hk.cr;have h2:=hc.q;simp only
   (repeat' split)<;>omega
theorem add_eq(v i)(aj:Int)(s):kS (eS v i aj) i s={v with fl:=kz v.fl i (some {fS v i aj with sg:=(fS v i aj).sg++[s]}),lv:=kL v i,n:=v.n+1}:=by
 unfold kS eS;simp only[cA]
 congr 1
 funext j
 by_cases h:j=i
 ·rw[h,cA,cA]
 ·rw[eG _ _ h,eG _ _ h,eG _ _ h]
theorem FY(h:f.sg≠[]):du {f with sg:=f.sg++[s]}=du f:=by
 unfold du;cases hs:f.sg with
 |nil=>exact absurd hs h
 |cons x l=>rfl
theorem jv.dE{v:Qm}(h:jv v){i:Nat}(hi:i<8)(x:Option Fl)(lv':LV)(ks':List Key)(n':Int)(hlv:wF lv')(hin:∀j,j≠i→(nU lv' j↔nU v.lv j))(hxi:nU lv' i→∃f,x=some f)(hx:∀f,x=some f→YF i f)
  (hks:∀k,k∈ks'↔(k∈v.ks∧k.2≠(i:Int))∨∃f,x=some f∧f.sg≠[]∧¬nU lv' i∧k=(du f,(i:Int))) (hsrt:Ba ks') (hn:n'=v.n+yf x-yf (v.fl i)) (hle:n'≤512):
  jv {v with fl:=kz v.fl i x,lv:=lv',ks:=ks',n:=n'}:=by
 refine⟨h.cf,hlv,λj hj=>?_,λj f hf=>?_,λk=>?_,hsrt,?_,hle⟩
 ·have hj:nU lv' j:=hj;show ∃f,kz v.fl i x j=some f;by_cases e:j=i
  ·subst e;obtain⟨f,hf⟩:=hxi hj;exact⟨f,(cA _ _ _).trans hf⟩
  ·obtain⟨f,hf⟩:=h.th j ((hin j e).1 hj);exact⟨f,(eG _ _ e).trans hf⟩
 ·have hf:kz v.fl i x j=some f:=hf;by_cases e:j=i
  ·subst e;rw[cA]at hf;exact⟨hi,hx f hf⟩
  ·rw[eG _ _ e]at hf;exact h.fl j f hf
 ·show k∈ks'↔∃(j:Nat) (f:Fl),kz v.fl i x j=some f∧f.sg≠[]∧¬nU lv' j∧k=(du f,(j:Int));rw[hks,h.ks];constructor
  ·rintro(⟨⟨j,f,h1,h2,h3,h4⟩,h5⟩|⟨f,h1,h2,h3,h4⟩)
   ·have e:j≠i:=λe=>h5 (by rw[h4,e]);exact⟨j,f,(eG _ _ e).trans h1,h2,λhh=>h3 ((hin j e).1 hh),h4⟩
   ·exact⟨i,f,(cA _ _ _).trans h1,h2,h3,h4⟩
  ·rintro⟨j,f,h1,h2,h3,h4⟩;by_cases e:j=i
   ·subst e;rw[cA]at h1;exact .inr ⟨f,h1,h2,h3,h4⟩
   ·rw[eG _ _ e]at h1;exact .inl ⟨⟨j,f,h1,h2,λhh=>h3 ((hin j e).2 hh),h4⟩,by rw[h4];intro hh;exact e (by have hh:(j:Int)=i:=hh;omega)⟩
 ·show n'=F1 (kz v.fl i x) 8;rw[O9,aG hi,hn,h.n];omega
theorem jv.key{v:Qm}(h:jv v){i:Nat}{k:Key}(hk:k∈v.ks)(e:k.2=(i:Int)):∃f,v.fl i=some f∧f.sg≠[]∧¬nU v.lv i∧k=(du f,(i:Int)):=by
 obtain⟨j,f,h1,h2,h3,h4⟩:=(h.ks k).1 hk;have:j=i:=by rw[h4]at e;have e:(j:Int)=i:=e;omega
 subst this;exact⟨f,h1,h2,h3,h4⟩
theorem jv.same{v:Qm}(h:jv v){i:Nat}{x:Option Fl}{lv':LV}(hs:∀t,(∃f,v.fl i=some f∧f.sg≠[]∧¬nU v.lv i∧t=du f)↔∃f,x=some f∧f.sg≠[]∧¬nU lv' i∧t=du f)(k:Key):
  k∈v.ks↔(k∈v.ks∧k.2≠(i:Int))∨∃f,x=some f∧f.sg≠[]∧¬nU lv' i∧k=(du f,(i:Int)):=by
 constructor
 ·intro hk;by_cases e:k.2=(i:Int)
  ·right;obtain⟨f,h1,h2,h3,h4⟩:=h.key hk e;obtain⟨g,g1,g2,g3,g4⟩:=(hs (du f)).1 ⟨f,h1,h2,h3,rfl⟩;exact⟨g,g1,g2,g3,by rw[h4,g4]⟩
  ·exact .inl ⟨hk,e⟩
 ·rintro(hk|⟨f,h1,h2,h3,h4⟩)
  ·exact hk.1
  ·obtain⟨g,g1,g2,g3,g4⟩:=(hs (du f)).2 ⟨f,h1,h2,h3,rfl⟩;rw[h.ks];exact⟨i,g,g1,g2,g3,by rw[h4,g4]⟩
theorem jv.accept{v:Qm}(h:jv v){i:Nat}(hi:i<8){s:Sg}(hk:sK s=i)(hs:oi s)(aj:Int)(hn:v.n<512):jv (kS (eS v i aj) i s):=by
 rw[add_eq];have hw:=Pw h i aj;have hsg:=A7 v i aj;refine h.dE hi _ _ _ _ (NC h.lv) (λj e=>?_) (λ_=>⟨_,rfl⟩) (λf hf=>?_) (h.same λt=>?_) h.xA ?_ (by omega)
 ·rw[CZ hi];exact⟨λhh=>hh.elim id λhh=>absurd hh.1 e,.inl⟩
 ·cases hf;refine⟨hw.cr,hw.nx,hw.si,λx hx=>?_⟩;rw[eQ,j_]at hx;rcases hx with hx|rfl
  ·exact hw.sg x hx
  ·exact⟨hk,hs⟩
 ·constructor
  ·rintro⟨f,h1,h2,h3,h4⟩;have hp:fx v i=3:=vX.2 ⟨h3,f,h1,h2⟩;have hwf:fS v i aj=f:=by unfold fS;rw[h1];simp[hp]
   refine⟨{f with sg:=f.sg++[s]},by rw[hwf],by simp,λhh=>?_,by rw[FY h2];exact h4⟩;rcases(CZ hi).1 hh with hh|hh
   ·exact h3 hh
   ·rw[hp]at hh;cases hh.2
  ·rintro⟨f,h1,h2,h3,h4⟩;have h3:¬(nU v.lv i∨(i=i∧fx v i=0)):=λhh=>h3 ((CZ hi).2 hh);have h5:fx v i≠0:=λe=>h3 (.inr ⟨rfl,e⟩);have h6:¬nU v.lv i:=λe=>h3 (.inl e);have h7:∃g,v.fl i=some g∧g.sg≠[]:=Di λhh=>h5 (z8.2 ⟨h6,λg hg=>Di λh8=>hh ⟨g,hg,h8⟩⟩);obtain⟨g,hg,hg2⟩:=h7;have hwf:fS v i aj=g:=by unfold fS;rw[hg];simp[h5]
   rw[hwf]at h1;cases h1;exact⟨g,hg,hg2,h6,by rw[h4,FY hg2]⟩
 ·have:yf (some {fS v i aj with sg:=(fS v i aj).sg++[s]})=yf (v.fl i)+1:=by
   show(((fS v i aj).sg++[s]).length:Int)=_;rw[hsg];cases v.fl i with
   |none=>rfl
   |some f=>simp[yf]
  rw[this];omega
theorem EK(h:jv v){aj:Int}(hs:U (R5 s)∧U (ve s))(hl:1≤lM s∧lM s≤65536)(hn:U aj):oi (drawn v s aj):=by
 have hH:U (cH v.c):=by have:=h.cf.h;unfold U;omega
 exact⟨hs.1,hl,by show U (if _ then _ else _);split;exact oT hn hH;exact hs.2⟩
theorem jv.enq(h:jv v){aj:Int}(hs:U (R5 s)∧U (ve s))(hn:U aj):jv (fG v s aj).2:=by
 unfold fG;split
 ·exact h
 ·split
  ·exact h
  ·rename_i h1 h2;have h1:0≤sK s∧sK s≤7:=xj.1 h1;have h2:1≤lM s∧lM s≤65536:=xj.1 h2;split
   ·rename_i h3;have hc:=h.collect aj;refine hc.accept (by omega) (by show sK s=_;omega) (EK h hs h2 hn) aj ?_;unfold iJ at h3;split at h3
    ·cases h3
    ·rename_i h4;have:=hc.cf.l;omega
   ·exact h.collect aj
def iS(v:Qm)(aj:Int):List Key:=v.ks.takeWhile λk=>decide (k.1≤aj)
abbrev pI(v:Qm)(aj:Int):Qm:={v with ks:=v.ks.dropWhile (λk=>decide (k.1≤aj)),lv:=(v.lv.1,v.lv.2++(iS v aj).map Prod.snd)}
def dY(size ba:Int):Int:=if size<1∨ba=18446744073709551615 then 0 else if 1000000000<qN size 1000000000 ba then 1000000000 else qN size 1000000000 ba
def gu(a b:Int):Int:=if(if a=0 then 18446744073709551615 else a)>(if b=0 then 18446744073709551615 else b)then(if b=0 then 18446744073709551615 else b)else(if a=0 then 18446744073709551615 else a)
def ib(rates:List Int)(i:Nat):Int:=match rates[i]? with
 |some r=>r
 |none=>18446744073709551615
abbrev ej(v:Qm)(i:Nat)(f:Fl)(s:Sg)(aj ba:Int):Qm:=
 {v with fl:=kz v.fl i (some {f with cr:=f.cr-lM s,nx:=bJ aj (dY (lM s) (gu ba (cR v.c))),sg:=f.sg.tail}),n:=v.n-1}
def lX(aj:Int)(rates:List Int):Nat→Qm→Option Sg×Qm
 |0,v=>(none,v)
 |k+1,v=>match v.lv.1++v.lv.2,v.fl (cd v.lv).1.toNat with
  |[],_=>(none,v)
  |_::_,none=>(none,v)
  |_::_,some f=>
   if f.cr≤0 then lX aj rates k {v with fl:=kz v.fl (cd v.lv).1.toNat (some {f with cr:=f.cr+cQ v.c}),lv:=(fg v.lv).2}
   else match f.sg with
    |[]=>if(cd v.lv).2.1=true∧v.lv.2≠[]then lX aj rates k {v with lv:=(fg v.lv).2}
     else lX aj rates k {v with lv:=(cy v.lv).2,fl:=kz v.fl (cd v.lv).1.toNat (some {f with si:=aj})}
    |s::_=>if du f>aj then lX aj rates k {v with lv:=(cy v.lv).2,ks:=mO v.ks (du f,(cd v.lv).1)}
     else(some s,ej v (cd v.lv).1.toNat f s aj (ib rates (cd v.lv).1.toNat))
def XQ(x:Option Fl):Nat:=match x with
 |none=>0
 |some f=>(1-f.cr).toNat
def mu(v:Qm):Nat:=((v.lv.1++v.lv.2).map λx=>XQ (v.fl x.toNat)+1).sum+v.lv.1.length
def jW(v:Qm)(aj:Int)(rates:List Int):Option Sg×Qm:=lX aj rates (mu (pI v aj)+1) (pI v aj)
def cO(v:Qm)(i:Int):List Sg×Qm:=
 if ¬(0≤i∧i≤7)then([],v)else match v.fl i.toNat with
  |none=>([],v)
  |some f=>(f.sg,{v with fl:=kz v.fl i.toNat none,lv:=dM v.lv i,ks:=if fx v i.toNat=3 then v.ks.erase (du f,i)else v.ks,n:=v.n-f.sg.length})
def qX(v:Qm)(c:Cf):Int×Qm:=if may c then(0,{v with c:=c})else(13,v)
abbrev Da(c:Cf):Qm:=⟨c,λ_=>none,([],[]),[],0⟩
theorem jv.new{c:Cf}(h:yo c):jv (Da c) where
 cf:=h
 lv:=⟨by simp[Da],by simp[Da]⟩
 th i hi:=by simp[Da,nU]at hi
 fl i f hf:=by cases hf
 ks k:=by
  constructor
  ·intro hk;cases hk
  ·rintro⟨i,f,h1,_⟩;cases h1
 xA:=List.Pairwise.nil
 n:=rfl
 le:=by show(0:Int)≤512;omega
theorem jv.set(h:jv v)(hc:0≤cH c∧U (cR c)):jv (qX v c).2:=by
 unfold qX;split
 ·rename_i hm;have h2:=C8 hm hc.1 hc.2;exact{h with cf:=h2}
 ·exact h
theorem Ll{ks:List Key}{aj:Int}:∀{k:Key},k∈ks.takeWhile (λk=>decide (k.1≤aj))→k∈ks∧k.1≤aj:=by
 intro k hk;exact⟨List.takeWhile_subset _ hk,by
  induction ks with
  |nil=>simp at hk
  |cons x l ih=>
   rw[Ax]at hk;split at hk
   ·rename_i hx;rw[ec]at hk;rcases hk with rfl|hk
    ·simpa using hx
    ·exact ih hk
   ·simp at hk⟩
theorem key_inj(h:jv v)(ha:a∈v.ks)(hb:b∈v.ks)(e:a.2=b.2):a=b:=by
 obtain⟨i,f,h1,_,_,h4⟩:=(h.ks a).1 ha;obtain⟨j,g,g1,_,_,g4⟩:=(h.ks b).1 hb;rw[h4,g4]at e;have e:(i:Int)=j:=e;have e:i=j:=by omega
 subst e;rw[h1]at g1;cases g1;rw[h4,g4]
theorem KG{ks:List Key}(hs:ks.Nodup)(hi:∀a∈ks,∀b∈ks,a.2=b.2→a=b):(ks.map Prod.snd).Nodup:=by
 induction ks with
 |nil=>exact List.nodup_nil
 |cons x l ih=>
  rw[lD]at hs;rw[kJ,lD];refine⟨λhx=>?_,ih hs.2 λa ha b hb=>hi a (by simp[ha]) b (by simp[hb])⟩;obtain⟨y,hy,hxy⟩:=pu.1 hx;have:=hi y (by simp[hy]) x (by simp) hxy;exact hs.1 (this▸hy)
theorem jv.keys(h:jv v):(v.ks.map Prod.snd).Nodup∧∀x∈v.ks.map Prod.snd,(0≤x∧x<8)∧x∉v.lv.1++v.lv.2:=by
 refine⟨KG h.xA.nodup λa ha b hb=>key_inj h ha hb,λx hx=>?_⟩;obtain⟨k,hk,rfl⟩:=pu.1 hx;obtain⟨i,f,h1,_,h3,h4⟩:=(h.ks k).1 hk;rw[h4];have:=(h.fl i f h1).1;exact⟨by show 0≤(i:Int)∧(i:Int)<8;omega,h3⟩
theorem jv.due(h:jv v)(aj:Int):jv (pI v aj):=by
 have hk:=h.keys;have hsplit:v.ks=iS v aj++v.ks.dropWhile (λk=>decide (k.1≤aj)):=Aq.symm;have hkm:=hk.1;rw[hsplit,me,ka]at hkm;have hin:∀i:Nat,nU (pI v aj).lv i↔nU v.lv i∨(i:Int)∈(iS v aj).map Prod.snd:=λi=>by
  show(i:Int)∈v.lv.1++(v.lv.2++_)↔_;unfold nU;rw[eQ,eQ,eQ,or_assoc]
 refine⟨h.cf,?_,λi hi=>?_,h.fl,λk=>?_,?_,h.n,h.le⟩
 ·obtain⟨hd,hr⟩:=h.lv;constructor
  ·show(v.lv.1++(v.lv.2++(iS v aj).map Prod.snd)).Nodup;rw[←jF,ka];refine⟨hd,hkm.1,λa ha b hb e=>?_⟩;have:=(hk.2 b (by rw[hsplit,me,eQ];exact .inl hb)).2;exact this (e▸ha)
  ·intro x hx;have hx:x∈v.lv.1++(v.lv.2++(iS v aj).map Prod.snd):=hx;rw[←jF,eQ]at hx;rcases hx with hx|hx
   ·exact hr x hx
   ·exact(hk.2 x (by rw[hsplit,me,eQ];exact .inl hx)).1
 ·rcases(hin i).1 hi with hi|hi
  ·exact h.th i hi
  ·obtain⟨k,hk2,he⟩:=pu.1 hi;obtain⟨f,hf,_⟩:=h.key (Ll hk2).1 he;exact⟨f,hf⟩
 ·show k∈v.ks.dropWhile _↔∃(i:Nat) (f:Fl),v.fl i=some f∧_;constructor
  ·intro hkd;have hkk:k∈v.ks:=by rw[hsplit,eQ];exact .inr hkd
   obtain⟨i,f,h1,h2,h3,h4⟩:=(h.ks k).1 hkk;refine⟨i,f,h1,h2,λhh=>?_,h4⟩;rcases(hin i).1 hh with hh|hh
   ·exact h3 hh
   ·exact hkm.2.2 _ hh _ (pu.2 ⟨k,hkd,by rw[h4]⟩) rfl
  ·rintro⟨i,f,h1,h2,h3,h4⟩;have hkk:k∈v.ks:=(h.ks k).2 ⟨i,f,h1,h2,λhh=>h3 ((hin i).2 (.inl hh)),h4⟩;rw[hsplit,eQ]at hkk;rcases hkk with hkk|hkk
   ·exact absurd ((hin i).2 (.inr (pu.2 ⟨k,hkk,by rw[h4]⟩))) h3
   ·exact hkk
 ·have:=h.xA;rw[hsplit]at this;exact(Ag.1 this).2.1
theorem yv(hv:wF v)(hh:(cd v).2.2=true)(j):nU (fg v).2 j↔nU v j:=by
 unfold fg;rw[aG hh];unfold nU dM;simp only[eQ,ud,j_,iZ];have hm:=lB hh;rw[eQ]at hm;constructor
 ·rintro(h|h|h)
  ·exact .inl h.1
  ·exact .inr h.1
  ·rw[h];exact hm
 ·intro h;by_cases e:(j:Int)=(cd v).1
  ·exact .inr (.inr e)
  ·rcases h with h|h
   ·exact .inl ⟨h,e⟩
   ·exact .inr (.inl ⟨h,e⟩)
theorem II(hh:(cd v).2.2=true)(j):nU (cy v).2 j↔nU v j∧(j:Int)≠(cd v).1:=by
 unfold cy;rw[aG hh];unfold nU dM;simp only[eQ,ud,iZ];exact⟨λh=>h.elim (λh=>⟨.inl h.1,h.2⟩) λh=>⟨.inr h.1,h.2⟩,λh=>h.1.elim (λx=>.inl ⟨x,h.2⟩) λx=>.inr ⟨x,h.2⟩⟩
section
variable {v:Qm} {i:Nat} {f:Fl}
structure yn(v:Qm)(i:Nat)(f:Fl):Prop where
 ok:jv v
 hd:(cd v.lv).1=(i:Int)
 is:(cd v.lv).2.2=true
 fl:v.fl i=some f
theorem yn.lt(h:yn v i f):i<8:=(h.ok.fl i f h.fl).1
theorem yn.inl(h:yn v i f):nU v.lv i:=by
 have:=lB h.is;rw[h.hd]at this;exact this
theorem yn.no(h:yn v i f)(hk:k∈v.ks):k.2≠(i:Int):=λe=>by
 obtain⟨_,_,_,h3,_⟩:=h.ok.key hk e;exact h3 h.inl
theorem yn.GA(h:yn v i f)(hc:f.cr≤0):jv {v with fl:=kz v.fl i (some {f with cr:=f.cr+cQ v.c}),lv:=(fg v.lv).2}:=by
 have hf:=(h.ok.fl i f h.fl).2;have hq:=h.ok.cf.q;have h1:=hf.cr;refine h.ok.dE h.lt _ _ _ v.n h.ok.lv.back (λj _=>yv h.ok.lv h.is j) (λ_=>⟨_,rfl⟩) (λg hg=>?_) (h.ok.same λt=>?_) h.ok.xA (by rw[h.fl];simp[yf]) h.ok.le
 ·cases hg;exact⟨by show-65536<f.cr+cQ v.c∧f.cr+cQ v.c≤65536;omega,hf.nx,hf.si,hf.sg⟩
 ·have a1:¬∃g,v.fl i=some g∧g.sg≠[]∧¬nU v.lv i∧t=du g:=λ⟨_,_,_,h3,_⟩=>h3 h.inl;exact⟨λhh=>absurd hh a1,λ⟨_,_,_,h3,_⟩=>absurd ((yv h.ok.lv h.is i).2 h.inl) h3⟩
theorem yn.back(h:yn v i f):jv {v with lv:=(fg v.lv).2}:=by
 have:=h.ok.dE h.lt (v.fl i) (fg v.lv).2 v.ks v.n h.ok.lv.back (λj _=>yv h.ok.lv h.is j) (λ_=>⟨_,h.fl⟩) (λg hg=>(h.ok.fl i g hg).2) (h.ok.same λt=>?_) h.ok.xA (by omega) h.ok.le
 ·have e:kz v.fl i (v.fl i)=v.fl:=by
   funext j
   by_cases e:j=i
   ·rw[e,cA]
   ·rw[eG _ _ e]
  rw[e]at this;exact this
 ·have a1:¬∃g,v.fl i=some g∧g.sg≠[]∧¬nU v.lv i∧t=du g:=λ⟨_,_,_,h3,_⟩=>h3 h.inl;exact⟨λhh=>absurd hh a1,λ⟨_,_,_,h3,_⟩=>absurd ((yv h.ok.lv h.is i).2 h.inl) h3⟩
theorem yn.De(h:yn v i f)(hs:f.sg=[]){aj:Int}(hn:U aj):jv {v with lv:=(cy v.lv).2,fl:=kz v.fl i (some {f with si:=aj})}:=by
 have hf:=(h.ok.fl i f h.fl).2;have hd:=II (v:=v.lv) h.is;refine h.ok.dE h.lt (some {f with si:=aj}) (cy v.lv).2 v.ks v.n h.ok.lv.drop (λj e=>?_) (λ_=>⟨_,rfl⟩) (λg hg=>?_) (h.ok.same λt=>?_) h.ok.xA (by rw[h.fl];simp[yf]) h.ok.le
 ·rw[hd j,h.hd];exact⟨λx=>x.1,λx=>⟨x,λe2=>e (by omega)⟩⟩
 ·cases hg;exact⟨hf.cr,hf.nx,hn,hf.sg⟩
 ·have a1:¬∃g,v.fl i=some g∧g.sg≠[]∧¬nU v.lv i∧t=du g:=λ⟨_,_,_,h3,_⟩=>h3 h.inl;exact⟨λhh=>absurd hh a1,λ⟨g,hg,h3,_⟩=>by cases hg;exact absurd hs h3⟩
theorem NU(ks k x):x∈mO ks k↔x=k∨x∈ks:=by
 unfold mO;have e:=Aq (p:=λm=>lH m k) (l:=ks);have e2:x∈ks↔x∈ks.takeWhile (λm=>lH m k)∨x∈ks.dropWhile (λm=>lH m k):=by rw[←eQ,e]
 rw[e2,eQ,ec];exact⟨λh=>h.elim (λh=>.inr (.inl h)) λh=>h.elim .inl λh=>.inr (.inr h),λh=>h.elim (λh=>.inr (.inl h)) λh=>h.elim .inl λh=>.inr (.inr h)⟩
theorem Se(hs:Ba ks)(hk:k∉ks):Ba (mO ks k):=by
 obtain⟨a,b,hab,h1,h2⟩:∃a b,ks=a++b∧(∀m∈a,lH m k=true)∧∀m∈b,lH k m=true:=by
  refine⟨ks.takeWhile (λm=>lH m k),ks.dropWhile (λm=>lH m k),Aq.symm,?_,?_⟩
  ·intro m hm;clear hs hk
   induction ks with
   |nil=>simp at hm
   |cons x l ih=>
    rw[Ax]at hm;split at hm
    ·rw[ec]at hm;rcases hm with rfl|hm
     ·assumption
     ·exact ih hm
    ·simp at hm
  ·intro m hm;have e:=Aq (p:=λm=>lH m k) (l:=ks);cases hd:ks.dropWhile (λm=>lH m k)with
   |nil=>rw[hd]at hm;cases hm
   |cons y l=>
    have hy:lH y k=false:=by
     have:=List.head?_dropWhile_not (λm=>lH m k) ks;rw[hd]at this;simpa using this
    have hyk:y≠k:=λe2=>hk (by rw[←e,eQ,hd,←e2];simp);have hky:lH k y=true:=IP hy hyk;rw[hd]at hm;rw[ec]at hm;rcases hm with rfl|hm
    ·exact hky
    ·have hs2:=hs;rw[←e,hd]at hs2;have:=(uc.1 (Ag.1 hs2).2.1).1 m hm;exact w8 hky this
 rw[hab,Dg h1 h2];rw[hab]at hs;exact hs.put h1 h2
theorem yn.wait(h:yn v i f)(hs:f.sg≠[]):jv {v with lv:=(cy v.lv).2,ks:=mO v.ks (du f,(i:Int))}∧(du f,(i:Int))∉v.ks∧v.ks.length<8:=by
 have hd:=II (v:=v.lv) h.is;have hno:(du f,(i:Int))∉v.ks:=λhk=>h.no hk rfl;refine⟨?_,hno,?_⟩
 ·have hni:¬nU (cy v.lv).2 i:=λe=>((hd i).1 e).2 h.hd.symm;have:=h.ok.dE h.lt (v.fl i) (cy v.lv).2 (mO v.ks (du f,(i:Int))) v.n h.ok.lv.drop (λj e=>?_) (λe=>absurd e hni) (λg hg=>(h.ok.fl i g hg).2) (λk=>?_) (Se h.ok.xA hno) (by omega) h.ok.le
  ·have e:kz v.fl i (v.fl i)=v.fl:=by
    funext j
    by_cases e:j=i
    ·rw[e,cA]
    ·rw[eG _ _ e]
   rw[e]at this;exact this
  ·rw[hd j,h.hd];exact⟨λx=>x.1,λx=>⟨x,λe2=>e (by omega)⟩⟩
  ·rw[NU];constructor
   ·rintro(rfl|hk)
    ·exact .inr ⟨f,h.fl,hs,hni,rfl⟩
    ·exact .inl ⟨hk,h.no hk⟩
   ·rintro(hk|⟨g,hg,_,_,e⟩)
    ·exact .inr hk.1
    ·rw[h.fl]at hg;cases hg;exact .inl e
 ·have hk:=h.ok.keys;have h9:((i:Int)::v.ks.map Prod.snd).Nodup:=lD.2 ⟨λhx=>(hk.2 _ hx).2 h.inl,hk.1⟩;have:=qk 8 _ h9 λx hx=>by
   rcases ec.1 hx with rfl|hx
   ·have:=h.lt;exact⟨by omega,by show(i:Int)<((8:Nat):Int);omega⟩
   ·exact(hk.2 x hx).1
  simp at this;omega
theorem yn.Yj(h:yn v i f)(hs:f.sg=s::l)(hc:f.cr>0){aj ba:Int}(hn:U aj)(hd:U (dY (lM s) (gu ba (cR v.c)))):jv (ej v i f s aj ba):=by
 have hf:=(h.ok.fl i f h.fl).2;have hsg:=hf.sg s (by rw[hs];simp);have h1:=hf.cr;have h2:=hsg.2.ln;refine h.ok.dE h.lt _ v.lv v.ks (v.n-1) h.ok.lv (λ_ _=>lF) (λ_=>⟨_,rfl⟩) (λg hg=>?_) (h.ok.same λt=>?_) h.ok.xA (by rw[h.fl,hs];simp[yf,hs];omega) (by have:=h.ok.le;omega)
 ·cases hg;refine⟨by show-65536<f.cr-lM s∧f.cr-lM s≤65536;omega,oT hn hd,hf.si,λx hx=>hf.sg x (by rw[hs];rw[hs]at hx;exact nb _ hx)⟩
 ·have a1:¬∃g,v.fl i=some g∧g.sg≠[]∧¬nU v.lv i∧t=du g:=λ⟨_,_,_,h3,_⟩=>h3 h.inl;exact⟨λhh=>absurd hh a1,λ⟨_,_,_,h3,_⟩=>absurd h.inl h3⟩
end
theorem jv.close(h:jv v)(i:Int):jv (cO v i).2:=by
 unfold cO;split
 ·exact h
 ·rename_i hi;have hi:0≤i∧i≤7:=xj.1 hi;have hi8:i.toNat<8:=by omega
  have hin:((i.toNat:Nat):Int)=i:=by omega
  split
  ·exact h
  ·rename_i f hf;have hout:∀j:Nat,nU (dM v.lv i) j↔nU v.lv j∧(j:Int)≠i:=λj=>by
    unfold nU dM;simp only[eQ,ud,iZ];exact⟨λh=>h.elim (λh=>⟨.inl h.1,h.2⟩) λh=>⟨.inr h.1,h.2⟩,λh=>h.1.elim (λx=>.inl ⟨x,h.2⟩) λx=>.inr ⟨x,h.2⟩⟩
   have hlen:=h.len hf;refine h.dE hi8 none (dM v.lv i) _ _ (h.lv.out i) (λj e=>?_) (λe=>?_) (λg hg=>by cases hg) (λk=>?_) ?_ (by rw[hf];simp[yf]) (by have:=h.le;omega)
   ·rw[hout j];exact⟨λx=>x.1,λx=>⟨x,λe2=>e (by omega)⟩⟩
   ·exact absurd hin (((hout _).1 e).2)
   ·rw[hin];by_cases hp:fx v i.toNat=3
    ·rw[aG hp];obtain⟨h3,g,hg,hg2⟩:=vX.1 hp;rw[hf]at hg;cases hg;rw[h.xA.nodup.mem_erase_iff];constructor
     ·rintro⟨h4,h5⟩;refine .inl ⟨h5,λe=>?_⟩;obtain⟨g,hg,_,_,e2⟩:=h.key (i:=i.toNat) h5 (by rw[e,hin]);rw[hf]at hg;cases hg;exact h4 (by rw[e2,hin])
     ·rintro(⟨h4,h5⟩|⟨g,hg,_⟩)
      ·exact⟨λe=>h5 (by rw[e]),h4⟩
      ·cases hg
    ·rw[ay hp];constructor
     ·intro hk;refine .inl ⟨hk,λe=>?_⟩;obtain⟨g,hg,h2,h3,_⟩:=h.key (i:=i.toNat) hk (by rw[e,hin]);exact hp (vX.2 ⟨h3,g,hg,h2⟩)
     ·rintro(hk|⟨g,hg,_⟩)
      ·exact hk.1
      ·cases hg
   ·split
    ·exact h.xA.sublist Hk
    ·exact h.xA
end lL

namespace lN
open bH bp fL _root_.Go.X.Tree iU kR lP ff lL
theorem wW(n r:Int)(hn:n<9223372036854775808)(hr:U r):bu (Bm n r) bg (λx=>bs (x=dY n r) bg):=
 bC λw0 S R h=>by
  unfold dY;refine ae (λc=>?_) λc=>?_
  ·have c:n<1∨r=18446744073709551615:=cC;rw[aG c];exact au.aH rfl h
  have c:¬(n<1∨r=18446744073709551615):=cC;rw[ay c,ja (n:=n)];refine ar (uO n 1000000000 r ⟨by omega,by omega⟩ (bm _) hr) h λx w h=>?_;obtain⟨hx,h⟩:=h.aP;rw[hx];exact au.aH rfl h.gm
theorem uY(n r:Int)(hn:n<9223372036854775808)(hr:U r):bu (L4 n r) bg (λx=>bs (x=dY n r) bg):=
 bC λw0 S R h=>by
  unfold dY;refine ae (λc=>?_) λc=>?_
  ·have c:n<1∨r=18446744073709551615:=cC;rw[aG c];exact au.aH rfl h
  have c:¬(n<1∨r=18446744073709551615):=cC;rw[ay c,ja (n:=n)];refine ar (nY n 1000000000 r ⟨by omega,by omega⟩ (bm _) hr) h λx w h=>?_;obtain⟨hx,h⟩:=h.aP;rw[hx];exact au.aH rfl h.gm
theorem oU{n r:Int}(hn:n<9223372036854775808)(hr:U r):U (dY n r):=by
 unfold dY;split
 ·exact bm 0
 ·rename_i c;have h:=yS (a:=n) (b:=1000000000) (c:=r) ⟨by omega,by omega⟩ (bm _) hr;split
  ·exact bm _
  ·exact h
theorem CA{a b:Int}(ha:U a)(hb:U b):U (gu a b):=by unfold gu U at*;(repeat' split)<;>omega
theorem Ng(a b:Int)(ha:U a)(hb:U b):bu (T8 a b) bg (λx=>bs (x=gu a b) bg):=
 bC λw0 S R h=>by
  have e1:i64.wrap ((0:Int)+1)=1:=rfl;have e2:i64.wrap ((1:Int)+1)=2:=rfl;obtain⟨a',ha'⟩:∃a',a'=if a=0 then 18446744073709551615 else a:=⟨_,rfl⟩
  refine cS (λ_:Int×Int=>bg) (λy:Int×Int=>y=(18446744073709551615,0)∨y=(a',1)∨y=(gu a b,2)) (λy:Int×Int=>(2-y.2).toNat) h (.inl rfl) ?_;rintro(y:Int×Int) w hy h;rcases hy with rfl|rfl|rfl
  ·refine ae (λ_=>?_) λc=>(by cases c);refine⟨by decide,(a:Int),rfl,?_⟩;dsimp only;rw[e1];refine ae (λc=>?_) λc=>?_
   ·have c:a=0:=cC;rw[aG c]at ha';exact⟨⟨.inr (.inl (by rw[ha'])),h⟩,by show(2-(1:Int)).toNat<(2-(0:Int)).toNat;omega⟩
   ·have c:¬a=0:=cC;rw[ay c]at ha';refine⟨⟨.inr (.inl ?_),h⟩,by show(2-(1:Int)).toNat<(2-(0:Int)).toNat;omega⟩;unfold U at ha;rw[ha'];refine xu ?_ rfl;show(if a<_ then a else _)=a;split<;>omega
  ·refine ae (λ_=>?_) λc=>(by cases c);refine⟨⟨by show(0:Int)≤1;decide,by show(1:Int)<2;decide⟩,(b:Int),rfl,?_⟩;dsimp only;rw[e2];unfold U at ha hb;refine ae (λc=>?_) λc=>?_
   ·have c:b=0:=cC;refine⟨⟨.inr (.inr ?_),h⟩,by show(2-(2:Int)).toNat<(2-(1:Int)).toNat;omega⟩;refine xu ?_ rfl;show a'=gu a b;unfold gu;rw[←ha',aG c];have:a'≤18446744073709551615:=(by rw[ha'];split<;>omega);split<;>omega
   ·have c:¬b=0:=cC;refine⟨⟨.inr (.inr ?_),h⟩,by show(2-(2:Int)).toNat<(2-(1:Int)).toNat;omega⟩;refine xu ?_ rfl;show(if b<a' then b else a')=gu a b;unfold gu;rw[←ha',ay c]
  ·refine ae (λc=>(by cases c)) λ_=>?_;exact au.aH rfl h
theorem K0(a b:Int)(ha:U a)(hb:U b):bu (T5 a b) bg (λx=>bs (x=gu a b) bg):=
 bC λw0 S R h=>by
  unfold U at ha hb;refine ae (λc=>?_) λc=>?_
  ·have c:a=0:=cC;refine ae (λc2=>?_) λc2=>?_
   ·have c2:b=0:=gK;refine au.aH ?_ h;show(_:Int)=gu a b;unfold gu;rw[aG c,aG c2]
   ·have c2:¬b=0:=gK;refine au.aH ?_ h;show(if b<_ then b else _)=gu a b;unfold gu;rw[aG c,ay c2]
  ·have c:¬a=0:=cC;refine ae (λc2=>?_) λc2=>?_
   ·have c2:b=0:=gK;refine au.aH ?_ h;show(if _<a then _ else a)=gu a b;unfold gu;rw[ay c,aG c2]
   ·have c2:¬b=0:=gK;refine au.aH ?_ h;show(if b<a then b else a)=gu a b;unfold gu;rw[ay c,ay c2]
theorem jj(v lo hi:Int):bu (Mt v lo hi) bg (λr=>bs (r=decide (lo≤v∧v≤hi)) bg):=
 bC λw0 S R h=>by
  refine au.aH ?_ h;rw[jG];simp
theorem nV(c):bu (YR c) bg (λr=>bs (r=may c) bg):=
 bC λw0 S R h=>by
  unfold may;refine aD h λn1 w h=>ah h rfl (aK (jj _ _ _) h λw h=>?_);refine ae (λc1=>?_) λc1=>?_
  case _=>
   refine ah h rfl (aK (jj _ _ _) h λw h=>?_);refine ae (λc2=>?_) λc2=>?_
   case _=>
    refine ah h rfl (aK (jj _ _ _) h λw h=>?_);refine ae (λc3=>?_) λc3=>?_
    case _=>
     refine ah h rfl (aK (jj _ _ _) h λw h=>?_);refine ae (λc4=>?_) λc4=>?_
     case _=>
      refine ah h rfl (ae (λc5=>?_) λc5=>?_)
      case _=>
       refine ah h rfl (aK (jj _ _ _) h λw h=>?_);refine ae (λc6=>?_) λc6=>?_
       case _=>
        refine ah h rfl (aK (jj _ _ _) h λw h=>?_);refine au.aH ?_ h.gm;rw[c1,c2,c3,c4,c5,c6];rfl
       case _=>exact au.aH (by rw[c1,c2,c3,c4,c5,c6];rfl) h.gm
      case _=>exact au.aH (by rw[c1,c2,c3,c4,c5];rfl) h.gm
     case _=>exact au.aH (by rw[c1,c2,c3,c4];rfl) h.gm
    case _=>exact au.aH (by rw[c1,c2,c3];rfl) h.gm
   case _=>exact au.aH (by rw[c1,c2];rfl) h.gm
  case _=>exact au.aH (by rw[c1];rfl) h.gm
theorem aal(h:au w0 S0 R0 w F)(s K)(hl:s.len=0)(hc:s.cap=0):au w0 S0 R0 w (aS s K []^F):=by
 have h:=h.le ((aJ F).trans (be _ _));obtain⟨S,R,_,_,h2⟩:=h.part;exact h2 w (aS s K []) (λ_=>False) (λ_=>False) (jq.refl _ _) ⟨⟨.inl ⟨hl,hc,rfl⟩,hl⟩,λk=>⟨λh=>h.elim,λ⟨q,_,_,hq⟩=>absurd hc hq⟩,λ_ h=>h⟩ (λ_ h=>h.elim) (λ_ h=>h.elim)
theorem J7(s xs)(hl:xs.length≤4294967296):bu (Uf s) (bg^aV s KS xs) (λr=>aS r KS xs):=
 bC λw0 S R h=>by
  have h:au w0 S R w0 (aV s KS xs^bg):=h.aI;have hs:=(h.rd (s:=s)).2;have hn:=(h.rd (s:=s)).1.2.1;refine ae (λc=>?_) λ_=>?_
  ·have hp:s.p=none:=by
    simp only[Sl.isNil,d_,N6]at c;exact c.1
   have hx:xs=[]:=jE (by rw[←hs];exact hn hp);rw[hx];exact(h.nil KS).br
  ·refine aD h λn1 w h=>?_;have h:=aal h ⟨some ⟨n1,0⟩,0,0⟩ KS rfl rfl;refine dF (s:=⟨some ⟨n1,0⟩,0,0⟩) (x:=s) h rfl (by simpa using hl) λs2 w _ h=>?_;exact h.br
def eD(f:Nat→SP):Nat→SP
 |0=>bg
 |n+1=>f n^eD f n
def tU(f:Nat→SP)(i:Nat):Nat→SP:=λj=>if j=i then bg else f j
theorem im:∀n,(∀j,j<n→f j=g j)→eD f n=eD g n
 |0,_=>rfl
 |n+1,h=>by rw[eD,eD,h n (by omega),im n λj hj=>h j (by omega)]
theorem MH(p):Le (bg^p) p:=by
 rintro w S R ⟨S1,R1,S2,R2,h1,h2,hS,hR,_⟩;have e1:S=S2:=funext λk=>propext ((hS k).trans ⟨λh=>h.elim (λh=>absurd h (h1.1 k)) id,.inr⟩);have e2:R=R2:=funext λk=>propext ((hR k).trans ⟨λh=>h.elim (λh=>absurd h (h1.2 k)) id,.inr⟩);rw[e1,e2];exact h2
theorem oW(f):∀{n i:Nat},i<n→Le (eD f n) (f i^eD (tU f i) n)
 |n+1,i,h=>by
  by_cases e:i=n
  ·subst e;have e1:eD (tU f i) (i+1)=bg^eD f i:=by
    rw[eD,im (f:=tU f i) (g:=f) i λj hj=>by simp[tU,show j≠i by omega]];simp[tU]
   rw[e1];exact bi Le.rfl ((aJ _).trans (be _ _))
  ·have:=oW f (n:=n) (i:=i) (by omega);have e1:eD (tU f i) (n+1)=f n^eD (tU f i) n:=(by rw[eD];simp[tU,mF e]);rw[e1];exact(bi Le.rfl this).trans (fX _ _ _)
theorem rX(f):∀{n i:Nat},i<n→Le (f i^eD (tU f i) n) (eD f n)
 |n+1,i,h=>by
  by_cases e:i=n
  ·subst e;have e1:eD (tU f i) (i+1)=bg^eD f i:=by
    rw[eD,im (f:=tU f i) (g:=f) i λj hj=>by simp[tU,show j≠i by omega]];simp[tU]
   rw[e1];exact bi Le.rfl (MH _)
  ·have:=rX f (n:=n) (i:=i) (by omega);have e1:eD (tU f i) (n+1)=f n^eD (tU f i) n:=(by rw[eD];simp[tU,mF e]);rw[e1];exact(fX _ _ _).trans (bi Le.rfl this)
abbrev qL(c:Cf)(p:Nat→bO)(l w:Nat)(n:Int):List Lf:=[aE (cQ c),aE (cF c),aE (cL c),aE (cW c),aB (cH c),aB (cR c),bc (cD c),aE (dZ c),aE (eU c),.ptr (p 0),.ptr (p 1),.ptr (p 2),.ptr (p 3),.ptr (p 4),.ptr (p 5),.ptr (p 6),.ptr (p 7),.ptr (some ⟨l,0⟩),.ptr (some ⟨w,0⟩),aE n]
theorem tZ(c p l w)(n:Int)(i)(hi:i<8):Ks.un [.ptr] (((qL c p l w n).drop (0+9+i*1)).take 1)=some (p i):=by
 have:i=0∨i=1∨i=2∨i=3∨i=4∨i=5∨i=6∨i=7:=by omega
 rcases this with rfl|rfl|rfl|rfl|rfl|rfl|rfl|rfl<;>rfl
def wG(p:Nat→bO)(i:Nat)(x:bO):Nat→bO:=λj=>if j=i then x else p j
theorem sR(p i x):wG p i x i=x:=by simp[wG]
theorem A3(p x)(h:j≠i):wG p i x j=p j:=by simp[wG,h]
theorem NW(c p l w)(n:Int)(i)(hi:i<8)(x):dE (qL c p l w n) (0+9+i*1) [.ptr x]=qL c (wG p i x) l w n:=by
 have:i=0∨i=1∨i=2∨i=3∨i=4∨i=5∨i=6∨i=7:=by omega
 rcases this with rfl|rfl|rfl|rfl|rfl|rfl|rfl|rfl<;>rfl
def ku(a:Nat)(f:Fl):SP:=ex λs:Sl=>af a [aE f.cr,aB f.nx,aB f.si,aY s]^aS s KS f.sg
instance(a:Nat)(f:Fl):nl (ku a f):=by unfold ku;infer_instance
def lA(p:bO)(x:Option Fl):SP:=match x with
 |none=>bs (p=none) bg
 |some f=>ex λa:Nat=>bs (p=some ⟨a,0⟩) (ku a f)
instance(p:bO)(x:Option Fl):nl (lA p x):=by unfold lA;split<;>infer_instance
theorem LS(f)(h:∀j,nl (f j)):∀n,nl (eD f n)
 |0=>by unfold eD;infer_instance
 |n+1=>by have:=LS f h n;unfold eD;infer_instance
instance(f:Nat→SP)[h:∀j,nl (f j)](n:Nat):nl (eD f n):=LS f h n
abbrev Y1(p:Nat→bO)(fl:Nat→Option Fl):Nat→SP:=λj=>lA (p j) (fl j)
abbrev jb(p:Nat→bO)(fl:Nat→Option Fl):SP:=eD (Y1 p fl) 8
abbrev rK(p:Nat→bO)(fl:Nat→Option Fl)(i:Nat):SP:=eD (tU (Y1 p fl) i) 8
def qS(b:Nat)(v:Qm):SP:=ex λx:(Nat→bO)×Nat×Nat=>af b (qL v.c x.1 x.2.1 x.2.2 v.n)^jL x.2.1 v.lv^tree 8 x.2.2 v.ks^jb x.1 v.fl
instance(b:Nat)(v:Qm):nl (qS b v):=by unfold qS;infer_instance
section
variable {w0 w:World} {S0 R0:Nat→Prop} {F G:SP}
theorem _root_.Go.X.au.ku(h:au w0 S0 R0 w F)(a)[tk:ol lN.ku a F f G]:∃s:Sl,au w0 S0 R0 w (af a [aE f.cr,aB f.nx,aB f.si,aY s]^aS s KS f.sg^G):=by
 obtain⟨s,h⟩:=(h.le tk.le).lV;exact⟨s,h.aI⟩
theorem _root_.Go.X.au.sA(h:au w0 S0 R0 w F)(a s f)[tk:Take (af a [aE f.cr,aB f.nx,aB f.si,aY s]^aS s KS f.sg) F G]:au w0 S0 R0 w (lN.ku a f^G):=
 au.tQ (f:=λs:Sl=>af a [aE f.cr,aB f.nx,aB f.si,aY s]^aS s KS f.sg) s (h.le tk.le)
theorem _root_.Go.X.au.GY(h:au w0 S0 R0 w F)(a s)(cr nx si:Int)(sg f)(hf:f=⟨cr,nx,si,sg⟩)[tk:Take (af a [aE cr,aB nx,aB si,aY s]^aS s KS sg) F G]:au w0 S0 R0 w (lN.ku a f^G):=by
 rw[hf];exact h.sA a s ⟨cr,nx,si,sg⟩ (tk:=tk)
theorem _root_.Go.X.au.qS(h:au w0 S0 R0 w F)(b)[tk:ol lN.qS b F v G]:∃(p:Nat→bO) (l t:Nat),au w0 S0 R0 w (af b (qL v.c p l t v.n)^jL l v.lv^tree 8 t v.ks^jb p v.fl^G):=by
 obtain⟨s,h⟩:=(h.le tk.le).lV;exact⟨s.1,s.2.1,s.2.2,h.aI⟩
theorem _root_.Go.X.au.vR(h:au w0 S0 R0 w F)(b p l t v)[tk:Take (af b (qL v.c p l t v.n)^jL l v.lv^tree 8 t v.ks^jb p v.fl) F G]:au w0 S0 R0 w (lN.qS b v^G):=
 au.tQ (f:=λx:(Nat→bO)×Nat×Nat=>af b (qL v.c x.1 x.2.1 x.2.2 v.n)^jL x.2.1 v.lv^tree 8 x.2.2 v.ks^jb x.1 v.fl) (p,l,t) (h.le tk.le)
theorem _root_.Go.X.au.dM(h:au w0 S0 R0 w F)(p:Nat→bO)(fl:Nat→Option Fl){i:Nat}(hi:i<8){f:Fl}(hf:fl i=some f)[tk:Take (jb p fl) F G]:∃a,p i=some ⟨a,0⟩∧au w0 S0 R0 w (lN.ku a f^rK p fl i^G):=by
 have h:au w0 S0 R0 w ((lA (p i) (fl i)^rK p fl i)^G):=(h.le tk.le).le (bi (oW _ hi) Le.rfl);have h:=h.le (bZ _ _ _);rw[hf]at h;obtain⟨a,h⟩:=au.lV (f:=λa:Nat=>bs (p i=some ⟨a,0⟩) (lN.ku a f)) h;obtain⟨hp,h⟩:=h.aP;exact⟨a,hp,h⟩
theorem _root_.Go.X.au.Xc(h:au w0 S0 R0 w F)(p fl)(hi:i<8)(hf:fl i=none)[tk:Take (jb p fl) F G]:p i=none∧au w0 S0 R0 w (rK p fl i^G):=by
 have h:au w0 S0 R0 w ((lA (p i) (fl i)^rK p fl i)^G):=(h.le tk.le).le (bi (oW _ hi) Le.rfl);have h:=h.le (bZ _ _ _);rw[hf]at h;obtain⟨hp,h⟩:=au.aP (p:=p i=none) (A:=bg) h;exact⟨hp,h.drop⟩
theorem L1(p q fl gl i)(hp:∀j,j≠i→q j=p j)(hf:∀j,j≠i→gl j=fl j):rK q gl i=rK p fl i:=im 8 λj _=>by
 unfold tU;split
 ·rfl
 ·rename_i e;show lA _ _=lA _ _;rw[hp j e,hf j e]
theorem _root_.Go.X.au.tX(h:au w0 S0 R0 w F)(p fl)(hi:i<8)(q gl a f)(hp:∀j,j≠i→q j=p j)(hf:∀j,j≠i→gl j=fl j)(hq:q i=some ⟨a,0⟩)(hg:gl i=some f)[tk:Take (lN.ku a f^rK p fl i) F G]:au w0 S0 R0 w (jb q gl^G):=by
 have h:=(h.le tk.le).le (bZ _ _ _);have h:au w0 S0 R0 w (lA (q i) (gl i)^rK p fl i^G):=by
  rw[hg];exact au.tQ (f:=λa:Nat=>bs (q i=some ⟨a,0⟩) (lN.ku a f)) a (au.i_ hq h)
 rw[←L1 p q fl gl i hp hf]at h;exact(h.le (dh _ _ _)).le (bi (rX (Y1 q gl) hi) Le.rfl)
theorem _root_.Go.X.au.inN(h:au w0 S0 R0 w F)(p fl)(hi:i<8)(q gl)(hp:∀j,j≠i→q j=p j)(hf:∀j,j≠i→gl j=fl j)(hq:q i=none)(hg:gl i=none)[tk:Take (rK p fl i) F G]:au w0 S0 R0 w (jb q gl^G):=by
 have h:=(h.le tk.le);have h:au w0 S0 R0 w (lA (q i) (gl i)^rK p fl i^G):=by
  rw[hg];exact au.i_ (p:=q i=none) (A:=bg) hq (h.le ((aJ _).trans (be _ _)))
 rw[←L1 p q fl gl i hp hf]at h;exact(h.le (dh _ _ _)).le (bi (rX (Y1 q gl) hi) Le.rfl)
theorem isN(h:au w0 S0 R0 w F)(p fl)(hi:i<8)[tk:Take (jb p fl) F G]:(p i).isNone=(fl i).isNone:=by
 cases hf:fl i with
 |none=>rw[(h.Xc p fl hi hf).1];rfl
 |some f=>obtain⟨a,ha,_⟩:=h.dM p fl hi hf;rw[ha];rfl
end
end lN

namespace Ej
open bH bp fL _root_.Go.X.Tree iU kR lP ff lL lN
theorem zY(b p l t v)(hv:wF v.lv)(i:Int)(hi:0≤i∧i<8):bu (JV (some ⟨b,0⟩) i) (af b (qL v.c p l t v.n)^jL l v.lv^tree 8 t v.ks^jb p v.fl) (λr=>bs (r=fx v i.toNat) (af b (qL v.c p l t v.n)^jL l v.lv^tree 8 t v.ks^jb p v.fl)):=
 bC λw0 S R h=>by
  have hl:=hv.GH;refine ac (ah h rfl (aK (fL.tu l v.lv i (by omega)) h λw h=>?_));have hi':((i.toNat:Nat):Int)=i:=by omega
  refine ae (λc=>?_) λc=>?_
  ·have c:bX v.lv i≠0:=cC;refine au.aH ?_ h.aI;unfold fx;rw[hi',aG c]
  have c:¬bX v.lv i≠0:=cC;refine ac ⟨hi,ah h (tZ _ _ _ _ _ i.toNat (by omega)) ?_⟩;cases hf:v.fl i.toNat with
  |none=>
   rw[(h.Xc p v.fl (by omega) hf).1];refine ae (λc=>(by simp at c)) λ_=>?_;refine au.aH ?_ h.aI;unfold fx;rw[hi',ay c,hf]
  |some f=>
   obtain⟨a,hp,h⟩:=h.dM p v.fl (by omega) hf;rw[hp];refine ae (λ_=>?_) λc=>(by simp at c);obtain⟨s,h⟩:=h.ku a;refine ac (ah h rfl ?_);have hs:=(h.rd (s:=s)).2;have h:=h.sA a s f;have h:=h.tX p v.fl (by omega) p v.fl a f (λ_ _=>rfl) (λ_ _=>rfl) hp hf;refine ae (λc2=>?_) λc2=>?_
   ·have c2:(s.len:Int)>0:=gK;refine au.aH ?_ h.aI;unfold fx;rw[hi',ay c,hf];exact(ay (λe=>by rw[e]at hs;simp only[kb]at hs;omega)).symm
   ·have c2:¬(s.len:Int)>0:=gK;refine au.aH ?_ h.aI;unfold fx;rw[hi',ay c,hf];exact(aG (jE (by omega))).symm
theorem G4(b p l t v)(hv:wF v.lv)(i:Int)(hi:0≤i∧i<8)(a s f)(hf:v.fl i.toNat=some f)(hp:p i.toNat=some ⟨a,0⟩):bu (JV (some ⟨b,0⟩) i)
  (af b (qL v.c p l t v.n)^jL l v.lv^af a [aE f.cr,aB f.nx,aB f.si,aY s]^aS s KS f.sg) (λr=>bs (r=fx v i.toNat) (af b (qL v.c p l t v.n)^jL l v.lv^af a [aE f.cr,aB f.nx,aB f.si,aY s]^aS s KS f.sg)):=
 bC λw0 S R h=>by
  have hl:=hv.GH;refine ac (ah h rfl (aK (fL.tu l v.lv i (by omega)) h λw h=>?_));have hi':((i.toNat:Nat):Int)=i:=by omega
  refine ae (λc=>?_) λc=>?_
  ·have c:bX v.lv i≠0:=cC;refine au.aH ?_ h.aI;unfold fx;rw[hi',aG c]
  have c:¬bX v.lv i≠0:=cC;refine ac ⟨hi,ah h (tZ _ _ _ _ _ i.toNat (by omega)) ?_⟩;rw[hp];refine ae (λ_=>?_) λc=>(by simp at c);refine ac (ah h rfl ?_);have hs:=(h.rd (s:=s)).2;refine ae (λc2=>?_) λc2=>?_
  ·have c2:(s.len:Int)>0:=gK;refine au.aH ?_ h.aI;unfold fx;rw[hi',ay c,hf];exact(ay (λe=>by rw[e]at hs;simp only[kb]at hs;omega)).symm
  ·have c2:¬(s.len:Int)>0:=gK;refine au.aH ?_ h.aI;unfold fx;rw[hi',ay c,hf];exact(aG (jE (by omega))).symm
theorem EY(b p l t v)(hv:wF v.lv)(i qM aj:Int)(hi:0≤i∧i<8)(hl:U qM)(hs:∀f,v.fl i.toNat=some f→U f.si):bu (Qu (some ⟨b,0⟩) i qM aj) (af b (qL v.c p l t v.n)^jL l v.lv^tree 8 t v.ks^jb p v.fl) (λr=>bs (r=idle v i.toNat qM aj) (af b (qL v.c p l t v.n)^jL l v.lv^tree 8 t v.ks^jb p v.fl)):=
 bC λw0 S R h=>by
  refine ac ⟨hi,ah h (tZ _ _ _ _ _ i.toNat (by omega)) ?_⟩;cases hf:v.fl i.toNat with
  |none=>
   rw[(h.Xc p v.fl (by omega) hf).1];refine ae (λc=>(by simp at c)) λ_=>?_;refine au.aH ?_ h.aI;unfold idle;rw[hf]
  |some f=>
   rw[isN h p v.fl (i:=i.toNat) (by omega),hf];refine ae (λ_=>?_) λc=>(by simp at c);refine aK (zY b p l t v hv i hi) h λw h=>?_;obtain⟨a,hp,h⟩:=h.dM p v.fl (by omega) hf;rw[hp];refine ae (λc=>?_) λc=>?_
   ·have c:fx v i.toNat=0:=cC;obtain⟨s,h⟩:=h.ku a;refine ac (ah h rfl (aK (e_ _ _ (hs f hf) hl) h λw h=>?_));have h:=h.sA a s f;have h:=h.tX p v.fl (by omega) p v.fl a f (λ_ _=>rfl) (λ_ _=>rfl) hp hf;refine au.aH ?_ h.aI;unfold idle;rw[hf];simp[c]
   ·have c:¬fx v i.toNat=0:=cC;have h:=h.tX p v.fl (by omega) p v.fl a f (λ_ _=>rfl) (λ_ _=>rfl) hp hf;refine au.aH ?_ h.aI;unfold idle;rw[hf];simp[c]
theorem all_congr(p q fl gl)(hp:∀j,j<8→q j=p j)(hf:∀j,j<8→gl j=fl j):jb q gl=jb p fl:=im 8 λj hj=>by show lA _ _=lA _ _;rw[hp j hj,hf j hj]
abbrev cm(v:Qm)(aj:Int)(k:Nat):Qm:={v with fl:=λi=>if i<k∧idle v i 3000000000 aj=true then none else v.fl i}
theorem zc(v)(aj:Int)(k):idle (cm v aj k) k 3000000000 aj=idle v k 3000000000 aj:=by
 have e:(cm v aj k).fl k=v.fl k:=by unfold cm;simp
 have e2:fx (cm v aj k) k=fx v k:=by unfold fx;rw[e]
 unfold idle;rw[e,e2]
theorem EF(b p l t v)(hv:jv v)(aj:Int):bu (Ul (some ⟨b,0⟩) aj) (af b (qL v.c p l t v.n)^jL l v.lv^tree 8 t v.ks^jb p v.fl) (λ_=>ex λp:Nat→bO=>af b (qL ((bM v aj)).c p l t ((bM v aj)).n)^jL l ((bM v aj)).lv^tree 8 t ((bM v aj)).ks^jb p ((bM v aj)).fl):=
 bC λw0 S R h=>by
  have h:au w0 S R w0 ((ex λp:Nat→bO=>af b (qL ((cm v aj (0:Int).toNat)).c p l t ((cm v aj (0:Int).toNat)).n)^jL l ((cm v aj (0:Int).toNat)).lv^tree 8 t ((cm v aj (0:Int).toNat)).ks^jb p ((cm v aj (0:Int).toNat)).fl)^bg):=by
   have e:cm v aj (0:Int).toNat=v:=(by unfold cm;simp);rw[e];exact au.tQ (f:=λp:Nat→bO=>af b (qL v.c p l t v.n)^jL l v.lv^tree 8 t v.ks^jb p v.fl) p h.aI
  refine cS (λy:Int=>ex λp:Nat→bO=>af b (qL ((cm v aj y.toNat)).c p l t ((cm v aj y.toNat)).n)^jL l ((cm v aj y.toNat)).lv^tree 8 t ((cm v aj y.toNat)).ks^jb p ((cm v aj y.toNat)).fl) (λy:Int=>0≤y∧y≤8) (λy:Int=>(8-y).toNat) h.br ⟨by decide,by decide⟩ ?_;rintro(y:Int) w hy h;obtain⟨p,h⟩:=(h.le (aJ _)).lV;have hw:i64.wrap (y+1)=y+1:=gi;refine ae (λc=>?_) λc=>?_
  ·have c:y<8:=cC;have hfy:(cm v aj y.toNat).fl y.toNat=v.fl y.toNat:=(by unfold cm;simp);refine ar (EY b p l t (cm v aj y.toNat) hv.lv y 3000000000 aj ⟨hy.1,c⟩ (by unfold U;omega) (λf hf=>(hv.fl _ f (hfy▸hf)).2.si)) h λr w h=>?_;obtain⟨hr,h⟩:=h.aP;rw[hr,zc];have hn:(y+1).toNat=y.toNat+1:=(by omega);dsimp only;rw[hw];have key:∀(q:Nat→bO) (w:World),au w0 S R w (af b (qL v.c q l t v.n)^jL l v.lv^tree 8 t v.ks^jb q (cm v aj (y+1).toNat).fl^bg)→(((0≤y+1∧y+1≤8)∧au w0 S R w (ex λp:Nat→bO=>af b (qL ((cm v aj (y+1).toNat)).c p l t ((cm v aj (y+1).toNat)).n)^jL l ((cm v aj (y+1).toNat)).lv^tree 8 t ((cm v aj (y+1).toNat)).ks^jb p ((cm v aj (y+1).toNat)).fl))∧(8-(y+1)).toNat<(8-y).toNat):=λq w h=>by
    refine⟨⟨by omega,?_⟩,by omega⟩;have h:au w0 S R w ((ex λp:Nat→bO=>af b (qL ((cm v aj (y+1).toNat)).c p l t ((cm v aj (y+1).toNat)).n)^jL l ((cm v aj (y+1).toNat)).lv^tree 8 t ((cm v aj (y+1).toNat)).ks^jb p ((cm v aj (y+1).toNat)).fl)^bg):=au.tQ (f:=λp:Nat→bO=>af b (qL ((cm v aj (y+1).toNat)).c p l t ((cm v aj (y+1).toNat)).n)^jL l ((cm v aj (y+1).toNat)).lv^tree 8 t ((cm v aj (y+1).toNat)).ks^jb p ((cm v aj (y+1).toNat)).fl) q h.aI;exact h.br
   refine ae (λc2=>?_) λc2=>?_
   ·obtain⟨f,hf,_⟩:=qg c2;obtain⟨a,hp,h⟩:=h.dM p (cm v aj y.toNat).fl (i:=y.toNat) (by omega) (hfy.trans hf);refine ac ⟨⟨hy.1,c⟩,?_⟩;refine aA h b (qL v.c (wG p y.toNat none) l t v.n) rfl (iY (by show 0+9+y.toNat*1+1≤20;omega)) (NW _ _ _ _ _ y.toNat (by omega) none) λw h=>?_;have h:=h.inN p (cm v aj y.toNat).fl (i:=y.toNat) (by omega) (wG p y.toNat none) (cm v aj (y+1).toNat).fl (λj e=>A3 _ _ e) (λj e=>by
     unfold cm;simp only;have:(j<(y+1).toNat∧idle v j 3000000000 aj=true)↔(j<y.toNat∧idle v j 3000000000 aj=true):=⟨λh=>⟨by omega,h.2⟩,λh=>⟨by omega,h.2⟩⟩;by_cases h:j<y.toNat∧idle v j 3000000000 aj=true
     ·rw[aG h,aG (this.2 h)]
     ·rw[ay h,ay (λx=>h (this.1 x))]) (sR _ _ _) (by unfold cm;exact aG ⟨by omega,c2⟩)
    exact key (wG p y.toNat none) w h.aI
   ·have e:(cm v aj (y+1).toNat).fl=(cm v aj y.toNat).fl:=funext λj=>by
     unfold cm;simp only;have:(j<(y+1).toNat∧idle v j 3000000000 aj=true)↔(j<y.toNat∧idle v j 3000000000 aj=true):=⟨λh=>⟨by
      have:j≠y.toNat:=λe=>by have:=h.2;rw[e,c2]at this;cases this
      omega,h.2⟩,λh=>⟨by omega,h.2⟩⟩
     by_cases h:j<y.toNat∧idle v j 3000000000 aj=true
     ·rw[aG h,aG (this.2 h)]
     ·rw[ay h,ay (λx=>h (this.1 x))]
    refine key p w ?_;rw[e];exact h.aI
  ·have c:¬y<8:=cC;have e:y=8:=(by omega);subst e;have e:jb p (bM v aj).fl=jb p (cm v aj (8:Int).toNat).fl:=all_congr _ _ _ _ (λ_ _=>rfl) λj hj=>by
    show(if _ then _ else _)=(if _ then _ else _);by_cases h:idle v j 3000000000 aj=true
    ·rw[aG h,aG ⟨hj,h⟩]
    ·rw[ay h,ay (λx=>h x.2)]
   refine au.ie p ?_;rw[e];exact h.aI
theorem MK(b p l t v)(hv:jv v)(n s)(aj:Int)(hs:0≤sK s∧sK s<8)(hn:U aj):bu (Um (some ⟨b,0⟩) (some ⟨n,0⟩) aj)
  (af n (Ks.mk KS s)^af b (qL v.c p l t v.n)^jL l v.lv^tree 8 t v.ks^jb p v.fl) (λr=>bs (r=iJ v s aj) (af n (Ks.mk KS (if iJ v s aj=0 then drawn v s aj else s))^af b (qL v.c p l t v.n)^jL l v.lv^tree 8 t v.ks^jb p v.fl)):=
 bC λw0 S R h=>by
  have hH:U (cH v.c):=by have:=hv.cf.h;unfold U;omega
  refine aM h λw h=>ac (ac (ah h rfl ⟨hs,ah h (tZ _ _ _ _ _ _ (by omega)) ?_⟩));refine ac (ah h rfl (aK (e_ _ _ hn hH) h λw h=>?_));refine aQ h (λ_=>af n (Ks.mk KS s)^af b (qL v.c p l t v.n)^jL l v.lv^tree 8 t v.ks^jb p v.fl) (λ_=>iJ v s aj=0) (λ_ w hx h=>?_) ?_
  ·refine ac (ah h rfl (ac ?_));refine aA h n (Ks.mk KS (drawn v s aj)) rfl rfl rfl λw h=>?_;refine au.aH hx.symm ?_;rw[aG hx];exact h.aI
  refine aM h λw h=>ac (ac (ah h rfl (ah h rfl ?_)));refine ae (λc=>?_) λc1=>?_
  ·have c:v.n≥cL v.c:=cC;have e:iJ v s aj=2:=(by unfold iJ;rw[aG c]);refine au.aH e.symm ?_;rw[e,ay (by decide)];exact h.aI
  have c1:¬v.n≥cL v.c:=by simpa using c1
  refine aQ h (λ_=>af n (Ks.mk KS s)^af b (qL v.c p l t v.n)^jL l v.lv^tree 8 t v.ks^jb p v.fl) (λy:Bool=>y=true↔∃f,v.fl (sK s).toNat=some f∧(f.sg.length:Int)≥cW v.c) (λy w hx h=>?_) ?_
  ·refine ae (λc=>?_) λc2=>?_
   ·have e:iJ v s aj=3:=(by unfold iJ;rw[ay c1,aG (hx.1 c)]);refine au.aH e.symm ?_;rw[e,ay (by decide)];exact h.aI
   have c2:¬∃f,v.fl (sK s).toNat=some f∧(f.sg.length:Int)≥cW v.c:=λx=>by have:=hx.2 x;rw[c2]at this;cases this
   refine ac (ah h rfl ?_);refine ae (λc=>?_) λc3=>?_
   ·have c:ve s>bJ aj (cH v.c):=cC;refine ac (ah h rfl ?_);refine ae (λc4=>?_) λc4=>?_
    ·have e:iJ v s aj=4:=(by unfold iJ;rw[ay c1,ay c2,aG ⟨c,c4⟩]);refine au.aH e.symm ?_;rw[e,ay (by decide)];exact h.aI
    ·exact⟨by unfold iJ;rw[ay c1,ay c2,ay (λx=>by rw[c4]at x;cases x.2)],h.aI⟩
   ·have c3:¬ve s>bJ aj (cH v.c):=(by simpa using c3);exact⟨by unfold iJ;rw[ay c1,ay c2,ay (λx=>c3 x.1)],h.aI⟩
  refine aM h λw h=>?_;cases hf:v.fl (sK s).toNat with
  |none=>
   rw[(h.Xc p v.fl (i:=(sK s).toNat) (by omega) hf).1];refine ae (λc=>(by simp at c)) λ_=>?_;exact⟨⟨λe=>(by cases e),λ⟨_,e,_⟩=>(by cases e)⟩,h.aI⟩
  |some f=>
   obtain⟨a,hp,h⟩:=h.dM p v.fl (i:=(sK s).toNat) (by omega) hf;rw[hp];refine ae (λ_=>?_) λc=>(by simp at c);obtain⟨s',h⟩:=h.ku a;have hs':=(h.rd (s:=s')).2;refine ac (ac (ah h rfl (ah h rfl ?_)));have h:=h.sA a s' f;have h:=h.tX p v.fl (i:=(sK s).toNat) (by omega) p v.fl a f (λ_ _=>rfl) (λ_ _=>rfl) hp hf;refine⟨?_,h.aI⟩;show decide ((s'.len:Int)≥cW v.c)=true↔_;rw[iZ,hs'];exact⟨λx=>⟨f,rfl,x⟩,λ⟨g,hg,x⟩=>by cases hg;exact x⟩
theorem Ss(hv:jv v)(aj:Int)(hi:fx v i≠0):(eS v i aj).fl=v.fl∧(eS v i aj).lv=v.lv:=by
 refine⟨funext λj=>?_,?_⟩
 ·by_cases e:j=i
  ·subst e;show kz v.fl j _ j=_;rw[cA];cases hf:v.fl j with
   |none=>
    refine absurd (z8.2 ⟨λh=>?_,λf h=>by rw[hf]at h;cases h⟩) hi;obtain⟨f,h2⟩:=hv.th j h;rw[hf]at h2;cases h2
   |some f=>unfold fS;rw[hf];simp[hi]
  ·exact eG _ _ e
 ·show kL v i=_;unfold kL;rw[aG hi]
theorem Pr(b p l t v)(hv:jv v)(i aj:Int)(hi:0≤i∧i<8):bu (Un (some ⟨b,0⟩) i aj) (af b (qL v.c p l t v.n)^jL l v.lv^tree 8 t v.ks^jb p v.fl) (λ_=>ex λp:Nat→bO=>af b (qL ((eS v i.toNat aj)).c p l t ((eS v i.toNat aj)).n)^jL l ((eS v i.toNat aj)).lv^tree 8 t ((eS v i.toNat aj)).ks^jb p ((eS v i.toNat aj)).fl):=
 bC λw0 S R h=>by
  have h8:i.toNat<8:=by omega
  have hi':((i.toNat:Nat):Int)=i:=by omega
  have hl:=hv.lv.GH;have hb:∀x:bO,Nat.ble (0+9+i.toNat*1+[Lf.ptr x].length) (qL v.c p l t v.n).length=true:=λx=>iY (by show 0+9+i.toNat*1+1≤20;omega);refine ac ⟨hi,ah h (tZ _ _ _ _ _ i.toNat h8) ?_⟩;refine aQ h (λ_=>xQ (λx:(Nat→bO)×Nat×Fl=>(x.1 i.toNat=some ⟨x.2.1,0⟩∧∀j,j≠i.toNat→x.1 j=p j)∧{x.2.2 with si:=0}=fS v i.toNat aj) (λx=>af b (qL v.c x.1 l t v.n)^jL l v.lv^tree 8 t v.ks^lN.ku x.2.1 x.2.2^rK p v.fl i.toNat)) (λ_=>fx v i.toNat=0) (λ_ w hx h=>?_) ?_
  ·obtain⟨⟨q,a,g⟩,⟨⟨hq,hq2⟩,hg⟩,h⟩:=h.NJ;dsimp only at hq hq2 hg h;refine ac ⟨hi,ah h (tZ _ _ _ _ _ i.toNat h8) ?_⟩;dsimp only;rw[hq];obtain⟨s,h⟩:=h.ku a;refine ac (aA h a [aE g.cr,aB g.nx,aB 0,aY s] rfl rfl rfl λw h=>?_);have h:=h.GY a s g.cr g.nx 0 g.sg {g with si:=0} rfl;refine ac (ah h rfl ?_);refine ar (qo l v.lv i true (by omega)) h λr w h=>?_;obtain⟨hr,h⟩:=h.aP;have hw:kL v i.toNat=(kH v.lv i true).2:=by unfold kL;rw[ay (by rw[hx];simp),hi']
   rw[←hw,hg]at h;have h:=h.tX p v.fl (i:=i.toNat) h8 q (eS v i.toNat aj).fl a (fS v i.toNat aj) hq2 (λj e=>eG _ _ e) hq (cA _ _ _);exact au.ie q h.aI
  cases hf:v.fl i.toNat with
  |none=>
   obtain⟨hp,h⟩:=h.Xc p v.fl h8 hf;rw[hp];refine ae (λ_=>?_) λc=>(by simp at c);refine aM h λw h=>ac (ac (ah h rfl (aD h λn8 w h=>⟨hi,?_⟩)));refine aA h b (qL v.c (wG p i.toNat (some ⟨n8,0⟩)) l t v.n) rfl (hb _) (NW _ _ _ _ _ i.toNat h8 _) λw h=>?_;have h:=h.nil KS;have h:=h.sA n8 ⟨none,0,0⟩ ⟨cF v.c,0,0,[]⟩;have hp0:fx v i.toNat=0:=z8.2 ⟨λh=>(by obtain⟨f,h2⟩:=hv.th _ h;rw[hf]at h2;cases h2),λf h=>(by rw[hf]at h;cases h)⟩;refine⟨hp0,(h.rA (f:=λx:(Nat→bO)×Nat×Fl=>af b (qL v.c x.1 l t v.n)^jL l v.lv^tree 8 t v.ks^lN.ku x.2.1 x.2.2^rK p v.fl i.toNat) (wG p i.toNat (some ⟨n8,0⟩),n8,⟨cF v.c,0,0,[]⟩) ⟨⟨sR _ _ _,λj e=>A3 _ _ e⟩,?_⟩).br⟩;unfold fS;rw[hf]
  |some f=>
   have hpn:(p i.toNat).isNone=false:=(by rw[isN h p v.fl h8,hf];rfl);refine ae (λc=>(by rw[hpn]at c;cases c)) λ_=>?_;refine aK (zY b p l t v hv.lv i hi) h λw h=>?_;refine ae (λc=>?_) λc=>?_
   ·have c:fx v i.toNat≠0:=cC;obtain⟨e1,e2⟩:=Ss hv aj c;refine au.ie p ?_;rw[e1,e2];exact h.aI
   have c:fx v i.toNat=0:=cC;refine aK (EY b p l t v hv.lv i 40000000 aj hi (by unfold U;omega) (λf hf=>(hv.fl _ f hf).2.si)) h λw h=>?_;obtain⟨a,hp,h⟩:=h.dM p v.fl h8 hf;rw[hp];refine ae (λc2=>?_) λc2=>?_
   ·obtain⟨s,h⟩:=h.ku a;refine aM h λw h=>ac (ac (ah h rfl (ah h rfl (ac (aA h a [aE (if cQ v.c>f.cr then cQ v.c else f.cr),aB f.nx,aB f.si,aY s] rfl rfl rfl λw h=>?_)))));have h:=h.GY a s (if cQ v.c>f.cr then cQ v.c else f.cr) f.nx f.si f.sg {f with cr:=if cQ v.c>f.cr then cQ v.c else f.cr} rfl;refine⟨c,(h.rA (f:=λx:(Nat→bO)×Nat×Fl=>af b (qL v.c x.1 l t v.n)^jL l v.lv^tree 8 t v.ks^lN.ku x.2.1 x.2.2^rK p v.fl i.toNat) (p,a,{f with cr:=if cQ v.c>f.cr then cQ v.c else f.cr}) ⟨⟨hp,λj e=>rfl⟩,?_⟩).br⟩;unfold fS;rw[hf];simp[c,c2]
   ·refine⟨c,(h.rA (f:=λx:(Nat→bO)×Nat×Fl=>af b (qL v.c x.1 l t v.n)^jL l v.lv^tree 8 t v.ks^lN.ku x.2.1 x.2.2^rK p v.fl i.toNat) (p,a,f) ⟨⟨hp,λj e=>rfl⟩,?_⟩).br⟩;unfold fS;rw[hf];simp[c,c2]
theorem Q5(b v)(hv:jv v)(s)(aj:Int)(hs:U (R5 s)∧U (ve s))(hn:U aj):bu (TX (some ⟨b,0⟩) s aj) (qS b v) (λr=>bs (r=(fG v s aj).1) (qS b (fG v s aj).2)):=
 bC λw0 S R h=>by
  refine aD h λn w h=>ae (λc=>(by simp at c)) λ_=>ah h rfl (aK (jj _ _ _) h λw h=>?_);refine ae (λc=>?_) λc=>?_
  ·have c:¬(0≤sK s∧sK s≤7):=(by simpa only[nK,Dk]using c);have e:fG v s aj=((0,8),v):=(by unfold fG;rw[aG c]);rw[e];exact au.aH rfl h.aI
  have c1:0≤sK s∧sK s≤7:=cC;refine ah h rfl (aK (jj _ _ _) h λw h=>?_);refine ae (λc=>?_) λc=>?_
  ·have c:¬(1≤lM s∧lM s≤65536):=(by simpa only[nK,Dk]using c);have e:fG v s aj=((0,1),v):=(by unfold fG;rw[ay (by simpa using c1),aG c]);rw[e];exact au.aH rfl h.aI
  have c2:1≤lM s∧lM s≤65536:=cC;obtain⟨p,l,t,h⟩:=h.qS b;refine ar (EF b p l t v hv aj) h λ_ w h=>?_;obtain⟨p,h⟩:=h.lV;have hc:=hv.collect aj;refine aK (MK b p l t (bM v aj) hc n s aj (by omega) hn) h λw h=>?_;refine ae (λc=>?_) λc=>?_
  ·have c:iJ (bM v aj) s aj=0:=cC;have e:fG v s aj=((0,0),kS (eS (bM v aj) (sK s).toNat aj) (sK s).toNat (drawn v s aj)):=(by unfold fG;rw[ay (by simpa using c1),ay gK,aG c]);rw[aG c]at h;rw[e,c];have ed:drawn (bM v aj) s aj=drawn v s aj:=rfl;rw[ed]at h;have hnn:v.n<512:=by
    unfold iJ at c;split at c
    ·cases c
    ·rename_i h4;have h5:=hc.cf.l;have:¬v.n≥cL v.c:=h4;have h5:1≤cL v.c∧cL v.c≤512:=h5;omega
   have hd:oi (drawn v s aj):=EK hv hs c2 hn;refine ah h rfl (ar (Pr b p l t (bM v aj) hc (sK s) aj (by omega)) h λ_ w h=>?_);obtain⟨p,h⟩:=h.lV;have hw:(eS (bM v aj) (sK s).toNat aj).fl (sK s).toNat=some (fS (bM v aj) (sK s).toNat aj):=cA _ _ _;have hlen:(fS (bM v aj) (sK s).toNat aj).sg.length≤512:=by
    rw[A7];cases hh:(bM v aj).fl (sK s).toNat with
    |none=>simp
    |some f=>exact(hc.len hh).2
   refine aM h λw h=>ah h rfl (ac ⟨by show 0≤sK s∧sK s<8;omega,ah h (tZ _ _ _ _ _ (sK s).toNat (by omega)) ?_⟩);refine aM h λw h=>aw (b:=n) (x:=drawn v s aj) h rfl ?_;obtain⟨a,hp,h⟩:=h.dM p (eS (bM v aj) (sK s).toNat aj).fl (i:=(sK s).toNat) (by omega) hw;rw[hp];obtain⟨g,hg⟩:∃g,g=fS (bM v aj) (sK s).toNat aj:=⟨_,rfl⟩;rw[←hg]at h hlen;obtain⟨sl,h⟩:=h.ku a;refine ac (ah h rfl (aD h λn16 w h=>aN h rfl ?_));have h:=h.co n16 KS [drawn v s aj] rfl (by simp);refine dF (s:=sl) (x:=⟨some ⟨n16,0⟩,1,1⟩) (ys:=[drawn v s aj]) h rfl (by show g.sg.length+1≤_;omega) λs17 w _ h=>?_;refine ac (aA h a [aE g.cr,aB g.nx,aB g.si,aY s17] rfl rfl rfl λw h=>ac (ah h rfl (ac ?_)));have h:=h.GY a s17 g.cr g.nx g.si (g.sg++[drawn v s aj]) {g with sg:=g.sg++[drawn v s aj]} rfl;have h:=h.tX p (eS (bM v aj) (sK s).toNat aj).fl (i:=(sK s).toNat) (by omega) p (kS (eS (bM v aj) (sK s).toNat aj) (sK s).toNat (drawn v s aj)).fl a {g with sg:=g.sg++[drawn v s aj]} (λ_ _=>rfl) (λj e=>by
    rw[lL.add_eq];exact(eG _ _ e).trans (eG (bM v aj).fl (some (fS (bM v aj) (sK s).toNat aj)) e).symm) hp (by rw[lL.add_eq,hg];exact cA _ _ _)
   have hnw:i64.wrap (v.n+1)=v.n+1:=wi (by have:=hv.n0;omega) (by omega);refine bh h rfl λw h=>?_;refine au.aH rfl ?_;have h:=h.dQ (b:=b) (L':=qL v.c p l t (v.n+1)) (by rw[show qL v.c p l t (v.n+1)=qL v.c p l t (i64.wrap (v.n+1)) by rw[hnw]];rfl);have h:au w0 S R w (af b (qL (kS (eS (bM v aj) (sK s).toNat aj) (sK s).toNat (drawn v s aj)).c p l t (kS (eS (bM v aj) (sK s).toNat aj) (sK s).toNat (drawn v s aj)).n)^jL l (kS (eS (bM v aj) (sK s).toNat aj) (sK s).toNat (drawn v s aj)).lv^tree 8 t (kS (eS (bM v aj) (sK s).toNat aj) (sK s).toNat (drawn v s aj)).ks^jb p (kS (eS (bM v aj) (sK s).toNat aj) (sK s).toNat (drawn v s aj)).fl^bg):=by
    rw[lL.add_eq]at h⊢;exact h.aI
   exact(h.vR b p l t (kS (eS (bM v aj) (sK s).toNat aj) (sK s).toNat (drawn v s aj))).br
  ·have c:¬iJ (bM v aj) s aj=0:=cC;have e:fG v s aj=((iJ (bM v aj) s aj,0),bM v aj):=(by unfold fG;rw[ay (by simpa using c1),ay gK,ay c]);rw[e];refine au.aH rfl ?_;exact(h.vR b p l t (bM v aj)).br
end Ej

namespace Cu
open bH bp fL _root_.Go.X.Tree iU kR lP ff lL lN Ej
theorem FZ(a f)(hf:f.sg≠[]):bu (YX (some ⟨a,0⟩)) (lN.ku a f) (λr=>bs (r=du f) (lN.ku a f)):=
 bC λw0 S R h=>by
  obtain⟨s,h⟩:=h.ku a;cases hs:f.sg with
  |nil=>exact absurd hs hf
  |cons x l=>
   rw[hs]at h;refine aM h λw h=>ac (ac (ah h rfl (ah h rfl (bS (s:=s) h (by decide) (by simp) ?_))));refine fj h s 0 3 x rfl rfl (by decide) rfl ?_;have h:=h.GY a s f.cr f.nx f.si (x::l) f (by rw[←hs]);refine au.aH ?_ h.aI;unfold du;rw[hs]
theorem IL(a f)(hf:f.sg≠[])(i:Int)(hi:0≤i∧i<8):bu (YY (some ⟨a,0⟩) i) (lN.ku a f) (λr=>bs (r=(du f,i)) (lN.ku a f)):=
 bC λw0 S R h=>by
  refine aD h λn w h=>aK (FZ a f hf) h λw h=>?_;refine az h (by rfl) λw h=>aw (b:=n) (x:=(du f,u64.wrap i)) h rfl ?_;rw[ja (n:=i)];exact au.aH rfl h.aI
theorem OU(b:Nat)(p:Nat→bO)(l t:Nat)(v:Qm)(hc:yo v.c)(hn:1≤v.n∧v.n≤512)(a:Nat)(f:Fl)(i:Nat)(hf:YF i f)(s:Sg)(ss:List Sg)(hs:f.sg=s::ss)(hl:f.sg.length≤512)(aj ba:Int)(hw:U aj)(hr:U ba):
  bu (Z8 (some ⟨b,0⟩) (some ⟨a,0⟩) aj ba) (af b (qL v.c p l t v.n)^lN.ku a f)
   (λr=>bs (r=s) (af b (qL v.c p l t (v.n-1))^lN.ku a {f with cr:=f.cr-lM s,nx:=bJ aj (dY (lM s) (gu ba (cR v.c))),sg:=f.sg.tail})):=
 bC λw0 S R h=>by
  obtain⟨hok,hok2⟩:=hf.sg s (by rw[hs];simp);have hok3:=hok2.ln;have hcr:=hf.cr;have hL:U (gu ba (cR v.c)):=CA hr hc.r;have hD:U (dY (lM s) (gu ba (cR v.c))):=oU (by omega) hL;obtain⟨sl,h⟩:=h.ku a;have hsl:=(h.rd (s:=sl)).2;have hcap:=pi (s:=sl) (K:=KS) (xs:=f.sg) h;have hsl':sl.len=ss.length+1:=by rw[hsl,hs];rfl
  refine aD h λn1 w h=>ac (ah h rfl (bS (s:=sl) h (by decide) (by rw[hs];simp) ?_));refine dP h sl 0 (y:=s) (by rw[hs];rfl) rfl (aD h λn6 w h=>az h (by rfl) λw h=>ac (ah h rfl ?_));refine wE (s:=sl) h 1 sl.len sl.cap rfl rfl rfl rfl (by omega) (by omega) (by omega) (by omega) λs9 h1 h2 h=>?_;have ht:(f.sg.take sl.len).drop 1=f.sg.tail:=by rw[jZ (by omega),List.drop_one]
  rw[ht]at h;refine ac (aA h a [aE f.cr,aB f.nx,aB f.si,aY s9] rfl rfl rfl λw h=>?_);have hnw:i64.wrap (v.n-1)=v.n-1:=gi;refine ac (ah h rfl (ac (aA h b (qL v.c p l t (v.n-1)) rfl rfl (by rw[show qL v.c p l t (v.n-1)=qL v.c p l t (i64.wrap (v.n-1)) by rw[hnw]];rfl) λw h=>?_)));have hcw:i64.wrap (f.cr-lM s)=f.cr-lM s:=gi;refine aM h λw h=>ac (ah h rfl (ah h rfl (ac (aA h a [aE (f.cr-lM s),aB f.nx,aB f.si,aY s9] rfl rfl (by rw[show([aE (f.cr-lM s),aB f.nx,aB f.si,aY s9]:List Lf)=[aE (i64.wrap (f.cr-lM s)),aB f.nx,aB f.si,aY s9] by rw[hcw]];rfl) λw h=>?_))));refine aM h λw h=>ah h rfl (ac (ah h rfl (ar (Ng ba (cR v.c) hr hc.r) h λr w h=>?_)));obtain⟨he,h⟩:=h.aP;rw[he];refine aN h rfl (ar (wW (lM s) _ (by omega) hL) h λr w h=>?_);obtain⟨he,h⟩:=h.aP;rw[he];refine ar (e_ _ _ hw hD) h λr w h=>?_;obtain⟨he,h⟩:=h.aP;rw[he];refine ac (aA h a [aE (f.cr-lM s),aB (bJ aj (dY (lM s) (gu ba (cR v.c)))),aB f.si,aY s9] rfl rfl rfl λw h=>?_);have h:=h.GY a s9 (f.cr-lM s) (bJ aj (dY (lM s) (gu ba (cR v.c)))) f.si f.sg.tail {f with cr:=f.cr-lM s,nx:=bJ aj (dY (lM s) (gu ba (cR v.c))),sg:=f.sg.tail} rfl;refine aw (b:=n6) (x:=s) h rfl (az h (by rfl) λw h=>aw (b:=n1) (x:=s) h rfl ?_);exact au.aH rfl h.aI
def Km(v:Qm)(i:Int):Bool:=decide (0≤i∧i≤7)&&(v.fl i.toNat).isSome
theorem CX(b p l t v)(i:Int):bu (Ue (some ⟨b,0⟩) i) (af b (qL v.c p l t v.n)^jL l v.lv^tree 8 t v.ks^jb p v.fl) (λr=>bs (r=Km v i) (af b (qL v.c p l t v.n)^jL l v.lv^tree 8 t v.ks^jb p v.fl)):=
 bC λw0 S R h=>by
  unfold Km;refine ae (λ_=>?_) λc=>(by simp at c);refine aK (jj _ _ _) h λw h=>?_;refine ae (λc=>?_) λc=>?_
  ·have c':0≤i∧i≤7:=bV c;refine ac ⟨by omega,ah h (tZ _ _ _ _ _ i.toNat (by omega)) ?_⟩;refine au.aH ?_ h.aI;rw[isN h p v.fl (i:=i.toNat) (by omega),mE c'];cases v.fl i.toNat<;>rfl
  ·refine au.aH ?_ h.aI;rw[show decide (0≤i∧i≤7)=false from c];rfl
theorem mS(b v c):bu (ZT (some ⟨b,0⟩) c) (qS b v) (λr=>bs (r=(qX v c).1) (qS b (qX v c).2)):=
 bC λw0 S R h=>by
  unfold qX;refine aD h λn1 w h=>ae (λc=>(by simp at c)) λ_=>aw (b:=n1) (x:=c) h rfl (aK (nV c) h λw h=>?_);refine ae (λc1=>?_) λc1=>?_
  ·rw[ay (by simpa using c1)];exact au.aH rfl h.aI
  ·rw[aG (by simpa using c1)];obtain⟨p,l,t,h⟩:=h.qS b;refine aw (b:=n1) (x:=c) h rfl (ac (aA h b (qL c p l t v.n) rfl rfl rfl λw h=>?_));exact au.aH rfl (h.vR b p l t {v with c:=c}).aI
theorem jD(c):bu (ZF c) bg (λr=>ex λb:Nat=>bs (r=if may c then(some ⟨b,0⟩,0)else(none,13)) (if may c then qS b (Da c)else bg)):=
 bC λw0 S R h=>by
  refine aD h λn1 w h=>aw (b:=n1) (x:=c) h rfl (aK (nV c) h λw h=>?_);refine ae (λc1=>?_) λc1=>?_
  ·have c1:¬may c=true:=(by simpa using c1);refine au.ie 0 (au.aH ?_ ?_)
   ·rw[ay c1]
   ·rw[ay c1];exact h.gm
  ·have c1:may c=true:=(by simpa using c1);refine aM h λw h=>aw (b:=n1) (x:=c) h rfl (ar fL.jD h λr w h=>?_);obtain⟨l,h⟩:=h.lV;obtain⟨hr,h⟩:=h.aP;rw[hr];refine aO (b:=n1) h (ar (iU.jD 8) h λr w h=>?_);obtain⟨t,h⟩:=h.lV;obtain⟨hr,h⟩:=h.aP;rw[hr];refine aO (b:=n1) h (aD h λb w h=>?_);have hA:au w0 S R w (jb (λ_=>none) (λ_=>none)^tree 8 t []^jL l ([],[])^af b (qL c (λ_=>none) l t 0)^bg):=by
    have h:au w0 S R w (bg^bg^bg^bg^bg^bg^bg^bg^bg^tree 8 t []^jL l ([],[])^af b (qL c (λ_=>none) l t 0)^bg):=by
     have h:au w0 S R w (tree (room 8) t []^jL l ([],[])^af b (qL c (λ_=>none) l t 0)^bg):=h.aI;have hE:∀{F:SP},au w0 S R w F→au w0 S R w (bg^F):=λh=>h.le ((aJ _).trans (be _ _));exact hE (hE (hE (hE (hE (hE (hE (hE (hE h))))))))
    have hp:∀{F:SP},Le (bg^F) (lA none none^F):=bi (λ_ _ _ h=>⟨rfl,h⟩) Le.rfl;have e:jb (λ_=>none) (λ_=>none)=lA none none^lA none none^lA none none^lA none none^lA none none^lA none none^lA none none^lA none none^bg:=rfl;rw[e];refine h.le (Le.trans ?_ (dh _ _ _));refine hp.trans (bi Le.rfl (Le.trans ?_ (dh _ _ _)));refine hp.trans (bi Le.rfl (Le.trans ?_ (dh _ _ _)));refine hp.trans (bi Le.rfl (Le.trans ?_ (dh _ _ _)));refine hp.trans (bi Le.rfl (Le.trans ?_ (dh _ _ _)));refine hp.trans (bi Le.rfl (Le.trans ?_ (dh _ _ _)));refine hp.trans (bi Le.rfl (Le.trans ?_ (dh _ _ _)));refine hp.trans (bi Le.rfl (Le.trans ?_ (dh _ _ _)));exact hp.trans (bi Le.rfl Le.rfl)
   refine au.ie b (au.aH ?_ ?_)
   ·rw[aG c1]
   ·rw[aG c1];exact(hA.vR b (λ_=>none) l t (Da c)).br
theorem C_(b v):bu (W5 (some ⟨b,0⟩)) (qS b v) (λr=>bs (r=((nW v.ks).1.1,(nW v.ks).2)) (qS b v)):=
 bC λw0 S R h=>by
  refine ae (λc=>(by simp at c)) λ_=>?_;obtain⟨p,l,t,h⟩:=h.qS b;refine ac (ah h rfl (aK (ff.C_ t 8 v.ks) h λw h=>?_));refine aD h λn w h=>az h (by rfl) λw h=>ah h rfl ?_;exact au.aH rfl (h.vR b p l t v).aI
abbrev KF:Ks:=[.int .i64,.int .i64,.int .i64,.int .u64,.int .u64,.sl]
abbrev Xc:Int×Int×Int×Int×Int×Sl:=(0,0,0,0,0,⟨none,0,0⟩)
theorem J8(b v)(hv:jv v)(i:Int):bu (TR (some ⟨b,0⟩) i) (qS b v) (λr=>aS r KS (cO v i).1^qS b (cO v i).2):=
 bC λw0 S R h=>by
  obtain⟨p,l,t,h⟩:=h.qS b;refine aK (CX b p l t v i) h λw h=>?_;refine ae (λc=>?_) λc=>?_
  ·have c:Km v i=false:=cC;have h:=(h.vR b p l t v).nil KS;have e:cO v i=([],v):=by
    unfold cO;split
    ·rfl
    ·rename_i hi;have hi:0≤i∧i≤7:=xj.1 hi;unfold Km at c;rw[mE hi]at c;cases hf:v.fl i.toNat with
     |none=>rfl
     |some f=>rw[hf]at c;cases c
   rw[e];exact h.aI
  ·have c:Km v i=true:=cC;unfold Km at c;simp only[d_,iZ,ua]at c;obtain⟨hi,f,hf⟩:=c;have hlen:=hv.len hf;have hi8:i.toNat<8:=(by omega);have hi':((i.toNat:Nat):Int)=i:=(by omega);have hl:=hv.lv.GH;have hn:=hv.le;have hn0:=hv.n0;refine ac ⟨by omega,ah h (tZ _ _ _ _ _ i.toNat hi8) ?_⟩;obtain⟨a,hp,h⟩:=h.dM p v.fl hi8 hf;rw[hp];refine aQ h (λ_=>af b (qL v.c p l t v.n)^jL l v.lv^tree 8 t (cO v i).2.ks^lN.ku a f^rK p v.fl i.toNat) (λ_=>True) (λ_ w _ h=>?_) ?_
   ·refine ac (ah h rfl (ar (u7 l v.lv i (by omega)) h λr w h=>?_));obtain⟨_,h⟩:=h.aP;rw[show(jH v.lv i).2=dM v.lv i from rfl]at h;refine ac ⟨by omega,?_⟩;refine aA h b (qL v.c (wG p i.toNat none) l t v.n) rfl (iY (by show 0+9+i.toNat*1+1≤20;omega)) (NW _ _ _ _ _ i.toNat hi8 none) λw h=>?_;obtain⟨s,h⟩:=h.ku a;have hs:=(h.rd (s:=s)).2;have hnw:i64.wrap (v.n-((s.len:Nat):Int))=v.n-f.sg.length:=by rw[hs];exact gi
    refine aM h λw h=>ac (ac (ah h rfl (ah h rfl (ac ?_))));refine aA h b (qL v.c (wG p i.toNat none) l t (v.n-f.sg.length)) rfl rfl (by rw[←hnw];rfl) λw h=>?_;refine ac (ah h rfl ?_);refine bP (J7 s f.sg (by omega)) h λs2 w h=>?_;have h:=h.inN p v.fl hi8 (wG p i.toNat none) (kz v.fl i.toNat none) (λj e=>A3 _ _ e) (λj e=>eG _ _ e) (sR _ _ _) (cA _ _ _);have e:cO v i=(f.sg,{v with fl:=kz v.fl i.toNat none,lv:=dM v.lv i,ks:=(cO v i).2.ks,n:=v.n-f.sg.length}):=by
     unfold cO;rw[ay (λx=>x hi),hf]
    have h:=h.vR b (wG p i.toNat none) l t {v with fl:=kz v.fl i.toNat none,lv:=dM v.lv i,ks:=(cO v i).2.ks,n:=v.n-f.sg.length};rw[←show(cO v i).2={v with fl:=kz v.fl i.toNat none,lv:=dM v.lv i,ks:=(cO v i).2.ks,n:=v.n-f.sg.length}from c_ Prod.snd e]at h;have e1:(cO v i).1=f.sg:=c_ Prod.fst e;rw[e1];exact h.aI
   ·obtain⟨s,h⟩:=h.ku a;refine aK (G4 b p l t v hv.lv i (by omega) a s f hf hp) h λw h=>?_;have h:=h.sA a s f;have ek:(cO v i).2.ks=if fx v i.toNat=3 then v.ks.erase (du f,i)else v.ks:=by
     unfold cO;rw[ay (λx=>x hi),hf]
    rw[ek];refine ae (λc=>?_) λc=>?_
    ·have c:fx v i.toNat=3:=cC;obtain⟨h3,g,hg,hg2⟩:=vX.1 c;rw[hf]at hg;cases hg;have hk:(du f,i)∈v.ks:=(hv.ks _).2 ⟨i.toNat,f,hf,hg2,h3,by rw[hi']⟩;refine aM h λw h=>ac (ah h rfl (aK (IL a f hg2 i (by omega)) h λw h=>?_));refine aN h rfl (ar (zg t 8 v.ks (du f,i)) h λr w h=>?_);obtain⟨_,h⟩:=h.aP;rw[aG c];have ed:GC v.ks (du f,i)=(0,v.ks.erase (du f,i)):=(by unfold GC;rw[aG hk]);rw[ed]at h;exact⟨trivial,h.aI⟩
    ·have c:¬fx v i.toNat=3:=cC;rw[ay c];exact⟨trivial,h.aI⟩
end Cu

namespace xI
open bH bp fL _root_.Go.X.Tree iU kR lP ff lL lN Ej Cu
theorem D1{α:Type}{p:α→Bool}:∀{l:List α} {i:Nat},(∀j x,j<i→l[j]?=some x→p x=true)→(∀x,l[i]?=some x→p x=false)→l.takeWhile p=l.take i
 |[],i,_,_=>by simp
 |x::l,0,_,h=>by rw[Ax,ay (by rw[h x rfl];simp)];rfl
 |x::l,i+1,h1,h2=>by rw[Ax,aG (h1 0 x (by omega) rfl),List.take_succ_cons,D1 (λj y hj hy=>h1 (j+1) y (by omega) hy) h2]
theorem Jf{α:Type}{l:List α}{i:Nat}{x:α}(h:l[i]?=some x):l.take (i+1)=l.take i++[x]:=by rw[lC,h];rfl
theorem RD(b p l t c)(n:Int)(v)(hv:wF v)(hn:v.1≠[]):bu (Z6 (some ⟨b,0⟩)) (af b (qL c p l t n)^jL l v) (λr=>bs (r=decide (v.2≠[])) (af b (qL c p l t n)^jL l v)):=
 Tl λw S R h=>by
  have hfew:=hv.GH;refine aD h λn1 w h=>ac (ah h rfl (ar (fL.jd _) h λf w h=>?_));obtain⟨m,h⟩:=h.lV;obtain⟨hf,h⟩:=h.aP;rw[hf];have h:=(h.take (af n1 [bc false])).i_ (p:=∀j y,j<0→(lm v)[j]?=some y→y.2=true) (λj y hj=>by omega);refine pw (fL.lQ m l v (by omega)) (λi=>bs (∀j y,j<i→(lm v)[j]?=some y→y.2=true) (af n1 [bc false])) (λj=>bs (j=1∧v.2≠[]) (af n1 [bc true])) h ?_ ?_ ?_
  ·rintro i (x:Int×Bool) hx w S R B7 next jump rdy bsy hmid hnext hjump h
   refine hmid h λw h=>?_;have h:=h.take (bs (∀j y,j<i→(lm v)[j]?=some y→y.2=true) (af n1 [bc false]));obtain⟨hno,h⟩:=h.aP;refine ae (λc=>?_) λc=>?_
   ·have c:x.2=false:=cC;have h2:v.2≠[]:=λe=>by
     rcases Es hx with⟨_,_,h3⟩|⟨_,h3,_⟩
     ·rw[c]at h3;cases h3
     ·rw[e]at h3;simp at h3
    refine aA h n1 [bc true] rfl rfl rfl λw h=>?_;have h:=(h.take (af n1 [bc true])).i_ (p:=1=1∧v.2≠[]) ⟨rfl,h2⟩;exact hjump 1 (by decide) h
   ·have c:x.2=true:=cC;have h:=(h.take (af n1 [bc false])).i_ (p:=∀j y,j<i+1→(lm v)[j]?=some y→y.2=true) (λj y hj hy=>by
     by_cases hji:j=i
     ·rw[hji,hx]at hy;cases hy;exact c
     ·exact hno j y (by omega) hy)
    exact hnext h
  ·intro w h;have h:=h.take (bs (∀j y,j<(lm v).length→(lm v)[j]?=some y→y.2=true) (af n1 [bc false]));obtain⟨hno,h⟩:=h.aP;have h2:v.2=[]:=by
    cases h3:v.2 with
    |nil=>rfl
    |cons x r=>
     have:=hno v.1.length (x,false) (by rw[yV,h3];simp) (by unfold lm;rw[h3];simp);cases this
   refine aA h n1 [bc false] rfl rfl rfl λw h=>?_;refine ah h rfl (aT h λw h=>?_);exact au.aH (by rw[h2];simp) h.aI
  ·intro j w hj h;have h:=h.take (bs (j=1∧v.2≠[]) (af n1 [bc true]));obtain⟨⟨hj1,h2⟩,h⟩:=h.aP;rw[hj1];refine ah h rfl (aT h λw h=>?_);exact au.aH (by simp[h2]) h.aI
theorem Q4(b p l t v)(hv:jv v)(aj:Int):bu (Z5 (some ⟨b,0⟩) aj) (af b (qL v.c p l t v.n)^jL l v.lv^tree 8 t v.ks) (λ_=>af b (qL v.c p l t v.n)^jL l (pI v aj).lv^tree 8 t (pI v aj).ks):=
 Tl λw0 S R h=>by
  have hkk:=hv.keys;have hfew:v.ks.length≤8:=by
   have:=qk 8 _ hkk.1 λx hx=>(hkk.2 x hx).1;simpa using this
  have hdl:(iS v aj).length≤8:=kW (List.takeWhile_prefix _).length_le hfew;refine aD h λn1 w h=>aD h λn2 w h=>?_;refine aQ h (λ_=>ex λs:Sl=>af n1 [aB aj]^af n2 [aY s]^aS s KR (iS v aj)^af b (qL v.c p l t v.n)^jL l v.lv^tree 8 t v.ks) (λ_=>True) (λ_ w _ h=>?_) ?_
  ·obtain⟨s,h⟩:=(h.le (aJ _)).lV;have hs:=(h.rd (s:=s)).2;refine ah h rfl ?_;have hsplit:v.ks=iS v aj++v.ks.dropWhile (λk=>decide (k.1≤aj)):=Aq.symm;have h:au w0 S R w (af n1 [aB aj]^af n2 [aY s]^aS s KR (iS v aj)^af b (qL v.c p l t v.n)^jL l (v.lv.1,v.lv.2++((iS v aj).take (0:Int).toNat).map Prod.snd)^tree 8 t ((iS v aj).drop (0:Int).toNat++v.ks.dropWhile (λk=>decide (k.1≤aj)))):=by
    have e:((iS v aj).drop (0:Int).toNat++v.ks.dropWhile (λk=>decide (k.1≤aj)))=v.ks:=hsplit.symm;have e2:(v.lv.1,v.lv.2++((iS v aj).take (0:Int).toNat).map Prod.snd)=v.lv:=(by simp);rw[e,e2];exact h.aI
   refine cS (λy:Int=>af n1 [aB aj]^af n2 [aY s]^aS s KR (iS v aj)^af b (qL v.c p l t v.n)^jL l (v.lv.1,v.lv.2++((iS v aj).take y.toNat).map Prod.snd)^tree 8 t ((iS v aj).drop y.toNat++v.ks.dropWhile (λk=>decide (k.1≤aj)))) (λy:Int=>0≤y∧y≤(iS v aj).length) (λy:Int=>((iS v aj).length-y).toNat) h ⟨by decide,by show(0:Int)≤_;omega⟩ ?_
   ·rintro(y:Int) w hy h;have hyw:i64.wrap (y+1)=y+1:=gi;refine ae (λc=>?_) λc=>?_
    ·have c:y<(s.len:Int):=cC;obtain⟨k,hk⟩:∃k,(iS v aj)[y.toNat]?=some k:=⟨_,jx (by omega)⟩;refine bS (s:=s) h hy.1 (by omega) (dP h s y.toNat hk rfl ?_);refine aD h λn25 w h=>az h (by rfl) λw h=>aM h λw h=>aw (b:=n25) (x:=k) h rfl ?_;have hd:(iS v aj).drop y.toNat=k::(iS v aj).drop (y.toNat+1):=qI hk;have hdel:GC ((iS v aj).drop y.toNat++v.ks.dropWhile (λk=>decide (k.1≤aj))) k=(0,(iS v aj).drop (y.toNat+1)++v.ks.dropWhile (λk=>decide (k.1≤aj))):=by
      rw[hd];unfold GC;rw[aG (by simp),nM,List.erase_cons_head]
     refine ac (ah h rfl (ar (zg t 8 ((iS v aj).drop y.toNat++v.ks.dropWhile (λk=>decide (k.1≤aj))) k) h λr w h=>?_));obtain⟨_,h⟩:=h.aP;rw[hdel]at h;have hkm:k∈v.ks:=by rw[hsplit,eQ];exact .inl (gI hk)
     have hk8:=hkk.2 k.2 (pu.2 ⟨k,hkm,rfl⟩);have hkw:i64.wrap k.2=k.2:=gi;refine aM h λw h=>ac (ah h rfl (ah h rfl ?_));rw[hkw];have hpl:((iS v aj).take y.toNat).length≤8:=(by rw[fO];omega);have hvf:=hv.lv.GH;refine ar (qo l (v.lv.1,v.lv.2++((iS v aj).take y.toNat).map Prod.snd) k.2 false (by simp only[gp,fz];omega)) h λr w h=>?_;obtain⟨_,h⟩:=h.aP;have hp:(kH (v.lv.1,v.lv.2++((iS v aj).take y.toNat).map Prod.snd) k.2 false).2=(v.lv.1,v.lv.2++((iS v aj).take (y.toNat+1)).map Prod.snd):=by
      have hnin:bX (v.lv.1,v.lv.2++((iS v aj).take y.toNat).map Prod.snd) k.2=0:=by
       rw[ma];intro hin;rw[←jF,eQ]at hin;rcases hin with hin|hin
       ·exact hk8.2 hin
       ·have hnd:=hkk.1;rw[hsplit,me,ka]at hnd;have hnd:=hnd.1;rw[←He y.toNat (iS v aj),me,ka,hd]at hnd;exact hnd.2.2 _ hin _ (by simp) rfl
      rw[kH,ay (by omega),ay (by rw[hnin];simp),ay (by simp),Jf hk];simp
     rw[hp]at h;have e:(y+1).toNat=y.toNat+1:=by omega
     rw[hyw,e];exact⟨⟨by omega,h.aI⟩,by omega⟩
    ·have c:¬y<(s.len:Int):=cC;have e1:(iS v aj).take y.toNat=iS v aj:=jZ (by omega);have e2:(iS v aj).drop y.toNat=[]:=Cb (by omega);rw[e1,e2,pr]at h;refine aT h λw h=>?_;exact h.aI
  ·refine ac (ah h rfl (ar (ff.jd _) h λf w h=>?_));obtain⟨m,h⟩:=h.lV;obtain⟨hf,h⟩:=h.aP;rw[hf];have h:=(h.nil KR).eN (s:=⟨none,0,0⟩) (K:=KR) (ys:=v.ks.take 0) rfl;have h0:∀j x,j<0→v.ks[j]?=some x→decide (x.1≤aj)=true:=λj x hj=>by omega
   have h:=(h.take (af n1 [aB aj]^af n2 [aY ⟨none,0,0⟩]^aS ⟨none,0,0⟩ KR (v.ks.take 0)));have h:=h.rA (f:=λs:Sl=>af n1 [aB aj]^af n2 [aY s]^aS s KR (v.ks.take 0)) (φ:=λ_=>∀j x,j<0→v.ks[j]?=some x→decide (x.1≤aj)=true) ⟨none,0,0⟩ h0;refine pw (ff.lQ m t 8 v.ks) (λi=>xQ (λ_:Sl=>∀j x,j<i→v.ks[j]?=some x→decide (x.1≤aj)=true) (λs:Sl=>af n1 [aB aj]^af n2 [aY s]^aS s KR (v.ks.take i))) (λj=>xQ (λ_:Sl=>j=2) (λs:Sl=>af n1 [aB aj]^af n2 [aY s]^aS s KR (iS v aj))) h ?_ ?_ ?_
   ·rintro i (x:Key) hx w S R B7 next jump rdy bsy hmid hnext hjump h
    have hi:i<v.ks.length:=(iy.1 hx).1;refine aD h λn12 w h=>az h (by rfl) λw h=>hmid h λw h=>?_;have h:=h.take (xQ (λ_:Sl=>∀j x,j<i→v.ks[j]?=some x→decide (x.1≤aj)=true) (λs:Sl=>af n1 [aB aj]^af n2 [aY s]^aS s KR (v.ks.take i)));obtain⟨s,hno,h⟩:=h.uQ;refine ah h rfl (ah h rfl (ae (λc=>?_) λc=>?_))
    ·have c:x.1>aj:=cC;have e:iS v aj=v.ks.take i:=D1 hno λy hy=>by rw[hx]at hy;cases hy;simp;omega
     rw[←e]at h;have h:=h.rA (f:=λs:Sl=>af n1 [aB aj]^af n2 [aY s]^aS s KR (iS v aj)) (φ:=λ_=>2=2) s rfl;exact hjump 2 (by decide) h
    ·have c:¬x.1>aj:=cC;refine ah h rfl (aw (b:=n12) (x:=x) h rfl (aD h λn17 w h=>?_));have h:=h.co n17 KR [x] rfl (by simp);refine dF (s:=s) (x:=⟨some ⟨n17,0⟩,1,1⟩) (ys:=[x]) h rfl (by rw[fO];simp;omega) λs18 w _ h=>?_;refine aA h n2 [aY s18] rfl rfl rfl λw h=>?_;have h:=h.eN (s:=s18) (K:=KR) (ys:=v.ks.take (i+1)) (Jf hx).symm;have h:=h.rA (f:=λs:Sl=>af n1 [aB aj]^af n2 [aY s]^aS s KR (v.ks.take (i+1))) (φ:=λ_=>∀j x,j<i+1→v.ks[j]?=some x→decide (x.1≤aj)=true) s18 (λj y hj hy=>by
      by_cases hji:j=i
      ·rw[hji,hx]at hy;cases hy;simp;omega
      ·exact hno j y (by omega) hy)
     exact hnext h
   ·intro w h;have h:=h.take (xQ (λ_:Sl=>∀j x,j<v.ks.length→v.ks[j]?=some x→decide (x.1≤aj)=true) (λs:Sl=>af n1 [aB aj]^af n2 [aY s]^aS s KR (v.ks.take v.ks.length)));obtain⟨s,hno,h⟩:=h.uQ;have e:iS v aj=v.ks.take v.ks.length:=D1 hno λy hy=>by simp at hy
    rw[←e]at h;exact⟨trivial,au.ie s h.aI⟩
   ·intro j w hj h;have h:=h.take (xQ (λ_:Sl=>j=2) (λs:Sl=>af n1 [aB aj]^af n2 [aY s]^aS s KR (iS v aj)));obtain⟨s,hj1,h⟩:=h.uQ;rw[hj1];exact⟨trivial,au.ie s h.aI⟩
theorem H4(hv:wF v)(hh:(cd v).2.2=true):(∃a,v.1=(cd v).1::a∧(cd v).2.1=true∧(fg v).2=(a,v.2++[(cd v).1])∧(cy v).2=(a,v.2))∨
  ∃c,v.1=[]∧v.2=(cd v).1::c∧(cd v).2.1=false∧(fg v).2=([],c++[(cd v).1])∧(cy v).2=([],c):=by
 obtain⟨a,c⟩:=v;have hf:∀(x:Int) (l:List Int),x∉l→l.filter (λy=>decide (y≠x))=l:=λx l hx=>by
  rw[Aw];intro y hy;have:y≠x:=λe=>hx (e▸hy);simpa using this
 have hf2:∀(x:Int) (l:List Int),x∉l→(x::l).filter (λy=>decide (y≠x))=l:=λx l hx=>by rw[Am,ay (by simp),hf x l hx]
 cases a with
 |cons x a=>
  left;have hn:x∉a++c:=(lD.1 hv.1).1;rw[eQ]at hn;refine⟨a,rfl,rfl,?_,?_⟩
  ·unfold fg dM;rw[aG hh];show(((x::a).filter (λy=>decide (y≠x))),c.filter (λy=>decide (y≠x))++[x])=(a,c++[x]);rw[hf2 x a λe=>hn (.inl e),hf x c λe=>hn (.inr e)]
  ·unfold cy dM;rw[aG hh];show(((x::a).filter (λy=>decide (y≠x))),c.filter (λy=>decide (y≠x)))=(a,c);rw[hf2 x a λe=>hn (.inl e),hf x c λe=>hn (.inr e)]
 |nil=>cases c with
  |nil=>cases hh
  |cons x c=>
   right;have hn:x∉c:=(lD.1 hv.1).1;refine⟨c,rfl,rfl,rfl,?_,?_⟩
   ·unfold fg dM;rw[aG hh];show(([]:List Int).filter (λy=>decide (y≠x)),(x::c).filter (λy=>decide (y≠x))++[x])=([],c++[x]);rw[hf2 x c hn];rfl
   ·unfold cy dM;rw[aG hh];show(([]:List Int).filter (λy=>decide (y≠x)),(x::c).filter (λy=>decide (y≠x)))=([],c);rw[hf2 x c hn];rfl
abbrev wt(fl:Nat→Option Fl)(L:List Int):Nat:=(L.map λx=>XQ (fl x.toNat)+1).sum
theorem px(fl)(x:Int)(L:List Int):wt fl (x::L)=XQ (fl x.toNat)+1+wt fl L:=by simp[wt]
theorem Ih(fl)(L M:List Int):wt fl (L++M)=wt fl L+wt fl M:=by simp[wt]
theorem Jo(fl){i:Nat}(x){L:List Int}(h:(i:Int)∉L)(h0:∀y∈L,0≤y):wt (kz fl i x) L=wt fl L:=by
 unfold wt
 congr 1
 refine List.map_congr_left λy hy=>?_;have:y≠(i:Int):=λe=>h (e▸hy);have:=h0 y hy;rw[eG _ _ (show y.toNat≠i by omega)]
theorem B8(v):mu v=wt v.fl (v.lv.1++v.lv.2)+v.lv.1.length:=rfl
section
variable {v:Qm} {i:Nat} {f:Fl}
theorem vv(h:yn v i f):(∃a,v.lv.1=(i:Int)::a∧(cd v.lv).2.1=true∧(fg v.lv).2=(a,v.lv.2++[(i:Int)])∧(cy v.lv).2=(a,v.lv.2)∧(i:Int)∉a++v.lv.2∧∀y∈a++v.lv.2,0≤y)∨
  ∃c,v.lv.1=[]∧v.lv.2=(i:Int)::c∧(cd v.lv).2.1=false∧(fg v.lv).2=([],c++[(i:Int)])∧(cy v.lv).2=([],c)∧(i:Int)∉c∧∀y∈c,0≤y:=by
 have hs:=H4 h.ok.lv h.is;rw[h.hd]at hs;obtain⟨hd,hr⟩:=h.ok.lv;rcases hs with⟨a,h1,h2,h3,h4⟩|⟨c,h1,h2,h3,h4,h5⟩
 ·rw[h1]at hd hr;exact .inl ⟨a,h1,h2,h3,h4,(lD.1 hd).1,λy hy=>(hr y (nb _ hy)).1⟩
 ·rw[h1,h2]at hd hr;exact .inr ⟨c,h1,h2,h3,h4,h5,(lD.1 hd).1,λy hy=>(hr y (nb _ hy)).1⟩
theorem vt(h:yn v i f)(hc:f.cr≤0):mu {v with fl:=kz v.fl i (some {f with cr:=f.cr+cQ v.c}),lv:=(fg v.lv).2}<mu v:=by
 have hq:=h.ok.cf.q;have e1:XQ (v.fl i)=(1-f.cr).toNat:=by rw[h.fl];rfl
 have e2:XQ (kz v.fl i (some {f with cr:=f.cr+cQ v.c}) i)=(1-(f.cr+cQ v.c)).toNat:=by rw[cA];rfl
 rw[B8,B8];dsimp only;rcases vv h with⟨a,h1,_,h3,_,h5,h6⟩|⟨c,h1,h2,_,h3,_,h5,h6⟩
 ·rw[h3,h1,←jF,nM,px,Ih,Jo _ _ h5 h6,px,eX,e1,e2];simp only[gg,wt,DH,Hz];omega
 ·rw[h3,h1,h2,pr,pr,Ih,Jo _ _ h5 h6,px,px,eX,e1,e2];simp only[wt,DH,Hz,kb];omega
theorem yX(h:yn v i f)(ht:(cd v.lv).2.1=true):mu {v with lv:=(fg v.lv).2}<mu v:=by
 rw[B8,B8];dsimp only;rcases vv h with⟨a,h1,_,h3,_⟩|⟨c,_,_,h4,_⟩
 ·rw[h3,h1,←jF,nM,px,Ih,px];simp only[gg,wt,DH,Hz];omega
 ·rw[h4]at ht;cases ht
theorem qF(h:yn v i f)(x:Option Fl)(ks:List Key):mu {v with fl:=kz v.fl i x,lv:=(cy v.lv).2,ks:=ks}<mu v:=by
 rw[B8,B8];dsimp only;rcases vv h with⟨a,h1,_,_,h3,h5,h6⟩|⟨c,h1,h2,_,_,h3,h5,h6⟩
 ·rw[h3,h1,nM,px,Jo _ _ h5 h6];simp only[gg];omega
 ·rw[h3,h1,h2,pr,pr,Jo _ _ h5 h6,px];simp only[kb];omega
theorem H8(h:v.fl i=x):kz v.fl i x=v.fl:=by
 funext j
 by_cases e:j=i
 ·rw[e,cA,h]
 ·exact eG _ _ e
theorem zr(h:yn v i f)(aj:Int)(rates:List Int)(k:Nat):lX aj rates (k+1) v=
  if f.cr≤0 then lX aj rates k {v with fl:=kz v.fl i (some {f with cr:=f.cr+cQ v.c}),lv:=(fg v.lv).2}
   else match f.sg with
    |[]=>if(cd v.lv).2.1=true∧v.lv.2≠[]then lX aj rates k {v with lv:=(fg v.lv).2}
     else lX aj rates k {v with lv:=(cy v.lv).2,fl:=kz v.fl i (some {f with si:=aj})}
    |s::_=>if du f>aj then lX aj rates k {v with lv:=(cy v.lv).2,ks:=mO v.ks (du f,(i:Int))}
     else(some s,ej v i f s aj (ib rates i)):=by
 have hm:=lB h.is;cases e:v.lv.1++v.lv.2 with
 |nil=>rw[e]at hm;cases hm
 |cons x l=>
  have e2:v.fl (cd v.lv).1.toNat=some f:=by rw[h.hd,eX];exact h.fl
  rw[lX,e,e2];simp only[h.hd,eX]
  try rfl
end
theorem zt(h:(cd v.lv).2.2=false)(aj:Int)(rates:List Int)(k):lX aj rates (k+1) v=(none,v):=by
 have e:=Rb h;rw[lX,e];rfl
abbrev RA:Sg:=(0,0,0,0,false)
abbrev zS:List Lf:=[aE 0,aB 0,aE 0,aB 0,bc false]
def Bu:Option Sg→Sg×Bool
 |none=>(RA,false)
 |some s=>(s,true)
theorem CB{rates:List Int}(hr:∀x∈rates,U x)(i):U (ib rates i):=by
 unfold ib;split
 ·rename_i h;exact hr _ (gI h)
 ·exact⟨by decide,by decide⟩
theorem yq(b v)(hv:jv v)(aj:Int)(hn:U aj)(s)(rates:List Int)(hr:∀x∈rates,U x):bu (W4 (some ⟨b,0⟩) aj s)
  (qS b v^aV s KU rates) (λr=>bs (r=Bu (jW v aj rates).1) (qS b (jW v aj rates).2)):=
 bC λw0 S R h=>by
  obtain⟨p,l,t,h⟩:=h.qS b;refine aD h λn1 w h=>ae (λc=>(by simp at c)) λ_=>?_;refine ar (Q4 b p l t v hv aj) h λ_ w h=>?_;have h:au w0 S R w (af n1 zS^aV s KU rates^af b (qL ((pI v aj)).c p l t ((pI v aj)).n)^jL l ((pI v aj)).lv^tree 8 t ((pI v aj)).ks^jb p ((pI v aj)).fl):=h.aI;refine fY (λ(_:Unit) (u:Qm)=>af n1 zS^aV s KU rates^af b (qL u.c p l t u.n)^jL l u.lv^tree 8 t u.ks^jb p u.fl) (λ_ u=>jv u∧∃k,mu u<k∧lX aj rates k u=jW v aj rates) (λ_ u=>mu u) (pI v aj) h ⟨hv.due aj,_,An _,rfl⟩ ?_;rintro K (y:Unit) u w ⟨hu,k,hk,hR⟩ h next
  have hslen:=(h.rd (s:=s)).2;have hl:=hu.lv.GH;cases k with
  |zero=>omega
  |succ k=>
  refine ac (ah h rfl (ar (fL.zq l u.lv (by omega)) h λr w h=>?_));obtain⟨hr2,h⟩:=h.aP;rw[hr2];cases hh:(cd u.lv).2.2 with
  |false=>
   rw[zt hh]at hR;refine ae (λ_=>?_) λc=>(by simp at c);refine az h (by rfl) λw h=>aw (b:=n1) (x:=RA) h rfl ?_;rw[←hR];exact au.aH rfl (h.vR b p l t u).aI
  |true=>
   refine ae (λc=>(by simp at c)) λ_=>?_;have hm:=lB hh;have hx:=hu.lv.2 _ hm;obtain⟨i,hi⟩:∃i:Nat,(cd u.lv).1=(i:Int):=⟨(cd u.lv).1.toNat,by omega⟩;obtain⟨f,hf⟩:=hu.th i (by rw[hi]at hm;exact hm);have hA:yn u i f:=⟨hu,hi,hh,hf⟩;have hi8:=hA.lt;have hF:=(hu.fl i f hf).2;have hcr:=hF.cr;have hq:=hu.cf.q;rw[zr hA]at hR;have hit:((i:Nat):Int).toNat=i:=eX i;rw[hi];refine ac ⟨by omega,?_⟩;rw[hit];refine ah h (tZ _ _ _ _ _ i hi8) ?_;obtain⟨a,hp,h⟩:=h.dM p u.fl hi8 hf;rw[hp];obtain⟨sl,h⟩:=h.ku a;have hsl:=(h.rd (s:=sl)).2;refine ac (ah h rfl (ae (λc=>?_) λc=>?_))
   ·have c:f.cr≤0:=cC;rw[aG c]at hR;have hcw:i64.wrap (f.cr+cQ u.c)=f.cr+cQ u.c:=gi;refine aM h λw h=>ac (ac (ah h rfl (ah h rfl (ac ?_))));refine aA h a [aE (f.cr+cQ u.c),aB f.nx,aB f.si,aY sl] rfl rfl (by rw[show([aE (f.cr+cQ u.c),aB f.nx,aB f.si,aY sl]:List Lf)=[aE (i64.wrap (f.cr+cQ u.c)),aB f.nx,aB f.si,aY sl] by rw[hcw]];rfl) λw h=>?_;refine ac (ah h rfl (ar (rW l u.lv hu.lv) h λr w h=>?_));obtain⟨_,h⟩:=h.aP;have h:=h.GY a sl (f.cr+cQ u.c) f.nx f.si f.sg {f with cr:=f.cr+cQ u.c} rfl;have h:=h.tX p u.fl hi8 p (kz u.fl i (some {f with cr:=f.cr+cQ u.c})) a {f with cr:=f.cr+cQ u.c} (λ_ _=>rfl) (λj e=>eG _ _ e) hp (cA _ _ _);have hmu:=vt hA c;exact next () {u with fl:=kz u.fl i (some {f with cr:=f.cr+cQ u.c}),lv:=(fg u.lv).2} w ⟨hA.GA c,k,by omega,hR⟩ h.aI hmu
   have c:¬f.cr≤0:=cC;rw[ay c]at hR;refine aQ h (λ_=>af n1 zS^aV s KU rates^af b (qL u.c p l t u.n)^jL l u.lv^tree 8 t u.ks^rK p u.fl i^af a [aE f.cr,aB f.nx,aB f.si,aY sl]^aS sl KS f.sg) (λy:Bool=>y=true↔f.sg=[]∧((cd u.lv).2.1=true∧u.lv.2≠[])) (λ(y:Bool) w hy h=>?_) ?_
   ·refine ae (λc2=>?_) λc2=>?_
    ·obtain⟨e1,e2⟩:=hy.1 c2;rw[e1]at hR;simp only at hR;rw[aG e2]at hR;refine ac (ah h rfl (ar (rW l u.lv hu.lv) h λr w h=>?_));obtain⟨_,h⟩:=h.aP;have h:=h.sA a sl f;have h:=h.tX p u.fl hi8 p u.fl a f (λ_ _=>rfl) (λ_ _=>rfl) hp hf;have hmu:=yX hA e2.1;exact next () {u with lv:=(fg u.lv).2} w ⟨hA.back,k,by omega,hR⟩ h.aI hmu
    have c2:¬(f.sg=[]∧((cd u.lv).2.1=true∧u.lv.2≠[])):=λx=>by have:=hy.2 x;rw[c2]at this;cases this
    refine ac (ah h rfl (ae (λc3=>?_) λc3=>?_))
    ·have c3:sl.len=0:=by
      have c3:(sl.len:Int)=0:=(by simpa using c3);omega
     have e1:f.sg=[]:=jE (by omega);rw[e1]at hR;simp only at hR;rw[ay (λx=>c2 ⟨e1,x⟩)]at hR;refine ac (ah h rfl (ar (fL.oq l u.lv (by omega)) h λr w h=>?_));obtain⟨_,h⟩:=h.aP;refine ac (aA h a [aE f.cr,aB f.nx,aB aj,aY sl] rfl rfl rfl λw h=>?_);have h:=h.GY a sl f.cr f.nx aj f.sg {f with si:=aj} rfl;have h:=h.tX p u.fl hi8 p (kz u.fl i (some {f with si:=aj})) a {f with si:=aj} (λ_ _=>rfl) (λj e=>eG _ _ e) hp (cA _ _ _);have hmu:=qF hA (some {f with si:=aj}) u.ks;exact next () {u with lv:=(cy u.lv).2,fl:=kz u.fl i (some {f with si:=aj})} w ⟨hA.De e1 hn,k,by omega,by rw[e1];exact hR⟩ h.aI hmu
    have c3:sl.len≠0:=by
     have c3:¬(sl.len:Int)=0:=(by simpa using c3);omega
    have e1:f.sg≠[]:=λe=>by rw[e]at hsl;exact c3 (by simpa using hsl)
    cases hss:f.sg with
    |nil=>exact absurd hss e1
    |cons s0 ss=>
    rw[hss]at hR;simp only at hR;have h:=h.sA a sl f;refine ar (FZ a f e1) h λr w h=>?_;obtain⟨hr3,h⟩:=h.aP;rw[hr3];refine ae (λc4=>?_) λc4=>?_
    ·have c4:du f>aj:=(by simpa using c4);rw[aG c4]at hR;obtain⟨hOk,hnin,hlt⟩:=hA.wait e1;refine ac (ah h rfl (ar (fL.oq l u.lv (by omega)) h λr w h=>?_));obtain⟨_,h⟩:=h.aP;refine aM h λw h=>ac (ah h rfl (ar (IL a f e1 i (by omega)) h λr w h=>?_));obtain⟨hr4,h⟩:=h.aP;rw[hr4];refine aN h rfl (ar (GP t 8 u.ks (du f,(i:Int))) h λr w h=>?_);obtain⟨_,h⟩:=h.aP;have ei:MY 8 u.ks (du f,(i:Int))=(0,mO u.ks (du f,(i:Int))):=(by unfold MY;rw[ay hnin,ay (by omega)]);rw[ei]at h;have h:=h.tX p u.fl hi8 p u.fl a f (λ_ _=>rfl) (λ_ _=>rfl) hp hf;have hmu:=qF hA (some f) (mO u.ks (du f,(i:Int)));rw[H8 hf]at hmu;exact next () {u with lv:=(cy u.lv).2,ks:=mO u.ks (du f,(i:Int))} w ⟨hOk,k,by omega,hR⟩ h.aI hmu
    have c4:¬du f>aj:=(by simpa using c4);rw[ay c4]at hR;have hlen:=hu.len hf;have hlen1:1≤f.sg.length:=(by rw[hss];simp);have hle:=hu.le;have hUr:=CB hr i;have hsent:=hA.Yj hss (by omega) hn (oU (by have:=(hF.sg s0 (by rw[hss];simp)).2.ln;omega) (CA hUr hu.cf.r));refine aQ h (λ_=>af n1 zS^aV s KU rates^af b (qL u.c p l t u.n)^jL l u.lv^tree 8 t u.ks^rK p u.fl i^lN.ku a f) (λy:Int=>y=ib rates i) (λ(y:Int) w hy h=>?_) ?_
    ·rw[hy];refine ar (OU b p l t u hu.cf (by omega) a f i hF s0 ss hss (by omega) aj (ib rates i) hn hUr) h λr w h=>?_;obtain⟨hr5,h⟩:=h.aP;rw[hr5];refine az h (by rfl) λw h=>aw (b:=n1) (x:=s0) h rfl ?_;have h:=h.tX p u.fl hi8 p (ej u i f s0 aj (ib rates i)).fl a {f with cr:=f.cr-lM s0,nx:=bJ aj (dY (lM s0) (gu (ib rates i) (cR u.c))),sg:=f.sg.tail} (λ_ _=>rfl) (λj e=>eG _ _ e) hp (cA _ _ _);rw[←hR];exact au.aH rfl (h.vR b p l t (ej u i f s0 aj (ib rates i))).aI
    ·refine ae (λc5=>?_) λc5=>?_
     ·have c5:(i:Int)<s.len:=(by simpa using c5);obtain⟨x,hx⟩:∃x,rates[i]?=some x:=⟨_,jx (by omega)⟩;refine bS (s:=s) h (by omega) (by omega) ?_;refine dP h s i (y:=x) hx (by rw[hit];rfl) ?_;refine⟨?_,h.aI⟩;show x=ib rates i;unfold ib;rw[hx]
     ·have c5:¬(i:Int)<s.len:=(by simpa using c5);refine⟨?_,h.aI⟩;show(18446744073709551615:Int)=ib rates i;unfold ib;rw[rj (by omega)]
   ·refine ac (ah h rfl (ae (λc2=>?_) λc2=>?_))
    ·simp only[d_,qQ]at c2;obtain⟨c2,c3⟩:=c2;have c2:sl.len=0:=by have c2:(sl.len:Int)=0:=c2;omega
     have e1:f.sg=[]:=jE (by omega);have hne:u.lv.1≠[]:=by
      rcases vv hA with⟨a',h1,_⟩|⟨c',_,_,h4,_⟩
      ·rw[h1];simp
      ·rw[c3]at h4;cases h4
     refine ar (RD b p l t u.c u.n u.lv hu.lv hne) h λr w h=>?_;obtain⟨hr3,h⟩:=h.aP;rw[hr3];refine⟨?_,h.aI⟩;show decide (u.lv.2≠[])=true↔_;rw[iZ];exact⟨λx=>⟨e1,c3,x⟩,λx=>x.2.2⟩
    ·refine⟨?_,h.aI⟩;refine⟨λe=>(by cases e),λ⟨e1,e2,_⟩=>?_⟩;rw[e1]at hsl;have:sl.len=0:=by simpa using hsl
     rw[e2,this]at c2;cases c2
end xI

namespace Jx
open bH bp fL _root_.Go.X.Tree iU kR lP ff lL lN Ej Cu xI
abbrev z7:Cf:=(3000,15000,100,50,10000000000,0,false,100000,1000)
theorem KQ:bu XG bg (λr=>bs (r=z7) bg):=
 bC λw0 S R h=>by
  refine aD h λn1 w h=>az h (by rfl) λw h=>aw (b:=n1) (x:=z7) h rfl ?_;exact au.aH rfl h.gm
end Jx

end Go.X
