/- Contracts and plain facts: TreeE TreeF FqM FqC. -/
import Derived.Test.YtaimlgfepkopkaaGreatB2
set_option linter.all false
namespace Go.X
open Go.Proofs
namespace lp
open _root_.Go.X.Tree xV AE iy kj
theorem zM{l l':List Nd}:∀{c:List je} {t t':Tr},t.rt=t'.rt→t.ht=t'.ht→g_ l (fill t c)→g_ l' t'→(∀j,j∈lc c∨j∈rc c→l'[j]?=l[j]?)→g_ l' (fill t' c)
 |[],_,_,_,_,_,h,_=>h
 |.L i k r::c,t,t',h1,h2,h3,h4,hf=>by
  have h3':g_ l (fill (.n t i k r) c):=h3;obtain⟨⟨q1,q2,q3⟩,_⟩:=jH h3';refine zM (c:=c) (t:=.n t i k r) (t':=.n t' i k r) rfl (by simp only[Tr.ht,h2]) h3' ⟨?_,h4,q3.frame λj hj=>hf j (.inr (by simp[rc,hj]))⟩ λj hj=>hf j (hj.imp (λx=>x) λx=>by simp[rc,x]);rw[hf i (.inr (by simp[rc])),q1,h1,h2]
 |.R q i k::c,t,t',h1,h2,h3,h4,hf=>by
  have h3':g_ l (fill (.n q i k t) c):=h3;obtain⟨⟨q1,q2,q3⟩,_⟩:=jH h3';refine zM (c:=c) (t:=.n q i k t) (t':=.n q i k t') rfl (by simp only[Tr.ht,h2]) h3' ⟨?_,q2.frame λj hj=>hf j (.inl (by simp[lc,hj])),h4⟩ λj hj=>hf j (hj.imp (λx=>by simp[lc,x]) λx=>x);rw[hf i (.inl (by simp[lc])),q1,h1,h2]
theorem x_:∀{c:List je} {t t':Tr},t.ht=t'.ht→t'.oT→(fill t c).oT→(fill t' c).oT
 |[],_,_,_,h,_=>h
 |.L i k r::c,t,t',h1,h2,h3=>by
  have h3':(fill (.n t i k r) c).oT:=h3;have q:=my h3';exact x_ (c:=c) (t:=.n t i k r) (t':=.n t' i k r) (by simp only[Tr.ht,h1]) ⟨h2,q.2.1,by rw[←h1];exact q.2.2.1,by rw[←h1];exact q.2.2.2⟩ h3'
 |.R q i k::c,t,t',h1,h2,h3=>by
  have h3':(fill (.n q i k t) c).oT:=h3;have g:=my h3';exact x_ (c:=c) (t:=.n q i k t) (t':=.n q i k t') (by simp only[Tr.ht,h1]) ⟨g.1,h2,by rw[←h1];exact g.2.2.1,by rw[←h1];exact g.2.2.2⟩ h3'
theorem FP:∀(d c:List je),lk (d++c)=lk c++lk d
 |[],c=>by simp[lk]
 |.L i k r::d,c=>by simp only[mY,lk];exact FP d c
 |.R q i k::d,c=>by simp only[mY,lk,FP d c];simp
theorem GI:∀(d c:List je),rk (d++c)=rk d++rk c
 |[],c=>by simp[rk]
 |.L i k r::d,c=>by simp only[mY,rk,GI d c];simp
 |.R q i k::d,c=>by simp only[mY,rk];exact GI d c
theorem yr:∀(d c:List je) (t:Tr),fill t (d++c)=fill (fill t d) c
 |[],c,t=>rfl
 |f::d,c,t=>by simp only[mY,fill];exact yr d c _
theorem sy:∀(t:Tr) (c:List je),(gz (fL t c).2).reverse++rX (fL t c).1=(gz c).reverse++kb t
 |.e,c=>by simp[fL,rX,kb]
 |.n .e i m r,c=>by simp[fL,rX,kb]
 |.n (.n a j x b) i m r,c=>by
  rw[fL,sy (.n a j x b)];simp[gz,kb,je.i]
theorem Lw{l l1:List Nd}{T:Tr}{us:List Bool}{fr:List Nat}{ks:List Key}{rm:Int}(hg:mO l T us fr ks rm){a b:Tr}{j:Nat}{m k:Key}{c:List je}
  (hR:g_ l1 (fill (.n a j m b) c)) (hab:a=.e∨b=.e) (ha:(fill (.n a j m b) c).oT) (hids:(fill (.n a j m b) c).cq=T.cq) (hlk:Lk l1 5000) (hlen:l1.length=l.length) (hino:lk c++(a.ino++b.ino)++rk c=ks.erase k):
  ∃T',(lu l1 j (Ar a b).rt (gz c)).2=T'.rt∧mO (lu l1 j (Ar a b).rt (gz c)).1 T' (us.set j false) (fr++[j]) (ks.erase k) rm:=by
 have hnd0:=hg.nd;have hdT:T.cq.Nodup:=(jE.1 hnd0).1;obtain⟨T',s,hs,mv,so,si⟩:=K8 (T:=fill (.n a j m b) c) hR rfl hab ha (by rw[hids];exact hdT);rw[hs]at mv;rw[hs]at so si;have hlen2:=AJ (gz c) l1 j (Ar a b).rt;have e1:T'.ino=ks.erase k:=by rw[mv.ino,so,hino]
 have e2:T'.cq=lc c++(a.cq++b.cq)++rc c:=by rw[mv.cq,si]
 have e3:T.cq=lc c++(a.cq++j::b.cq)++rc c:=by rw[←hids,lz];rfl
 have hp:(T.cq++fr).Perm (T'.cq++(fr++[j])):=by
  rw[e2,e3];have p1:(lc c++(a.cq++j::b.cq)++rc c++fr).Perm (j::(lc c++(a.cq++b.cq)++rc c++fr)):=by
   have:lc c++(a.cq++j::b.cq)++rc c++fr=(lc c++a.cq)++j::(b.cq++rc c++fr):=(by simp);rw[this];refine List.perm_middle.trans ?_;simp
  refine p1.trans ?_;rw[←kR];exact(MS (l₁:=[j])).trans (by simp)
 have hmem:∀p,p∈T.cq↔p=j∨p∈T'.cq:=λp=>by
  rw[e2,e3];simp only[eC,dO];constructor
  ·rintro((h|h|h|h)|h)
   ·exact .inr (.inl (.inl h))
   ·exact .inr (.inl (.inr (.inl h)))
   ·exact .inl h
   ·exact .inr (.inl (.inr (.inr h)))
   ·exact .inr (.inr h)
  ·rintro(h|(h|h|h)|h)
   ·exact .inl (.inr (.inr (.inl h)))
   ·exact .inl (.inl h)
   ·exact .inl (.inr (.inl h))
   ·exact .inl (.inr (.inr (.inr h)))
   ·exact .inr h
 have hj:j∉T'.cq:=by
  have h1:=hp.nodup_iff.1 hnd0;rw[jE]at h1;exact λhx=>h1.2.2 j hx j (by simp) rfl
 have hul:=hg.ul;have hjl:j<l.length:=hg.kf.lt j ((hmem j).2 (.inl rfl));refine⟨T',mv.root,⟨mv.kf,mv.oT,e1,?_,?_,by rw[qB,hul,hlen2,hlen],hp.nodup_iff.1 hnd0,λp hp=>?_,λp hp=>?_,λp hp=>?_,hg.rr,by rw[hlen2,hlen];exact hg.room⟩⟩
 ·exact hg.wI.sublist Gg
 ·have hsz:(T'.ino.length:Int)≤5000:=by
   rw[e1];have h1:=hg.small.2.2.2;have h2:=(Gg (a:=k) (l:=ks)).length_le;omega
  exact QJ mv.kf hlen2 hsz hlk λp hp=>mv.fr p (by rw[←mv.cq];exact hp)
 ·rw[hlen2,hlen]at hp;rcases hg.all p hp with h|h
  ·rcases(hmem p).1 h with h|h
   ·exact .inr (by simp[h])
   ·exact .inl h
  ·exact .inr (by simp[h])
 ·rw[hlen2,hlen];rw[eC,jY]at hp;rcases hp with hp|rfl
  ·exact hg.lt p hp
  ·exact hjl
 ·rw[xd (show j≠p from λe=>hj (e▸hp))];exact hg.on p ((hmem p).2 (.inr hp))
theorem yn(t:Nat)(rm:Int)(ks:List Key)(k:Key):bm (Ov (some ⟨t,0⟩) k) (tree rm t ks) (λr=>bh (r=(FA ks k).1) (tree rm t (FA ks k).2)):=
 br λw0 S R h=>by
  obtain⟨l,T,us,fr,a0,s,s1,s2,hg,h⟩:=h.tree rm t;obtain⟨b1,b2,b3,b4⟩:=hg.small;have hs:z_ T.ino:=by rw[hg.ino];exact hg.wI
  refine aA h λn1 w h=>ae (λc=>(by cases c)) λ_=>ar (x:=k) h rfl ?_;refine af (Ia t (some ⟨a0,0⟩) s ks.length rm l T hg.kf b1 b2 k) h λq w h=>?_;refine ar (x:=k) h rfl ?_;refine af (AN t (some ⟨a0,0⟩) s ks.length rm l T hg.kf hs b2 k q (T.rt+1)) h λr w h=>?_;obtain⟨hr,h⟩:=h.aB;rw[hr];unfold FA;rcases Ht hg k with⟨hk,c,hf,eks,g1,g2⟩|⟨hk,L,i,Rr,c,hf,hfill⟩
  ·rw[ay hk];rw[hf];refine ae (λ_=>?_) λc=>(by simp[Tr.rt]at c);exact au.aE rfl (h.pY t l T us fr a0 s s1 s2 hg).bk
  rw[aC hk];have eri:((.n L i k Rr,c):Tr×List je).1.rt=(i:Int):=rfl;rw[hf]at h⊢;rw[eri];have hR:g_ l (fill (.n L i k Rr) c):=by rw[hfill];exact hg.kf
  have hA:(fill (.n L i k Rr) c).oT:=by rw[hfill];exact hg.oT
  obtain⟨r1,r2⟩:=jH hR;obtain⟨hin,hnt⟩:=nU r1;have eks:ks=lk c++(L.ino++k::Rr.ino)++rk c:=by rw[←hg.ino,←hfill,nK];rfl
  have hcl:c.length+tz (.n L i k Rr)≤4096:=by have:=BV c (.n L i k Rr);rw[hfill]at this;omega
  have hsrt:=hg.wI;have hknot:k∉lk c++L.ino:=λhx=>by
   rw[eks]at hsrt;have e:lk c++(L.ino++k::Rr.ino)++rk c=(lk c++L.ino)++k::(Rr.ino++rk c):=by simp
   rw[e]at hsrt;have:=(hsrt.A4 (m:=k)).1 k hx;rw[sw]at this;cases this
  have hera:ks.erase k=lk c++L.ino++(Rr.ino++rk c):=by
   have e:lk c++(L.ino++k::Rr.ino)++rk c=(lk c++L.ino)++k::(Rr.ino++rk c):=(by simp);rw[eks,e,I2 hknot]
  have hdT:T.cq.Nodup:=(jE.1 hg.nd).1;have eids:T.cq=lc c++(L.cq++i::Rr.cq)++rc c:=by rw[←hfill,lz];rfl
  refine ae (λc=>(by have c:((i:Int)== -1)=true:=c;simp at c)) λ_=>?_;have aG:∀(w:World) (l1:List Nd) (a b:Tr) (j:Nat) (m:Key) (c1:List je) (q1:Sl),g_ l1 (fill (.n a j m b) c1)→(a=.e∨b=.e)→(fill (.n a j m b) c1).oT→(fill (.n a j m b) c1).cq=T.cq→Lk l1 5000→l1.length=l.length→
    lk c1++(a.ino++b.ino)++rk c1=ks.erase k→c1.length≤4096→
    au w0 S R w (aP q1 KI ((gz c1).reverse++[(j:Int)])^ah t [.ptr (some ⟨a0,0⟩),.sl s,.int .i64 (T.rt+1),.int .i64 ks.length,.int .i64 rm]^aP s KN l1^ah a0 [.sl s1,.sl s2,.int .i64 rm]^aP s1 KB us^aP s2 KI (fr.map λx:Nat=>(x:Int))^aT)→
    (deref (some ⟨t,0⟩) λq33=>
 ld [.sl] ⟨q33.b,q33.o+1⟩ λ(x34:Sl)=>
 idx x34 (j:Int) 5 λq35=>
 ld [.int .i64] ⟨q35.b,q35.o+2⟩ λ(x36:Int)=>
 join [.int .i64] (λJ37=>
 aq (x36==(-1:Int)) (
 deref (some ⟨t,0⟩) λq39=>
 ld [.sl] ⟨q39.b,q39.o+1⟩ λ(x40:Sl)=>
 idx x40 (j:Int) 5 λq41=>
 ld [.int .i64] ⟨q41.b,q41.o+3⟩ λ(x42:Int)=>
 J37 x42)<|
 J37 x36) λ(y38:Int)=>
 EF q1 none (some (IntKind.i64.wrap (((q1.len:Nat):Int)-(1:Int)))) none 1 λs43=>
 call Tryz.prog tE [.lf (.ptr (some ⟨t,0⟩)),.lf (.sl s43),.lf (.int .i64 (j:Int)),.lf (.int .i64 y38)] [] λ(r44:Unit)=>
 deref (some ⟨t,0⟩) λq45=>
 ld [.int .i64] ⟨q45.b,q45.o+3⟩ λ(x46:Int)=>
 deref (some ⟨t,0⟩) λq47=>
 st ⟨q47.b,q47.o+3⟩ [.int .i64 (IntKind.i64.wrap (x46-(1:Int)))]<|
 deref (some ⟨t,0⟩) λq48=>
 ld [.ptr] q48 λ(x49:Option Pt)=>
 call Tryz.prog tB [.lf (.ptr x49),.lf (.int .i64 (j:Int))] [.lf (.int .i64)] λ(r50:Int)=>
 λw=>au w0 S R w (bh (r50=0) (tree rm t (ks.erase k)))) w:=by
   intro w l1 a b j m c1 q1 hR hab hA hids hlk hlen hino hc1 h;obtain⟨T',hroot,hgood⟩:=Lw (us:=us) (fr:=fr) (k:=k) hg hR hab hA hids hlk hlen hino;obtain⟨r1,r2⟩:=jH hR;obtain⟨hin,hnt⟩:=nU r1;have el:Tree.lt l1 (j:Int)=a.rt:=by rw[Tree.lt,hnt]
   have er:bG l1 (j:Int)=b.rt:=(by rw[bG,hnt]);have hlq:=(h.rd (s:=q1)).2;have hjT:j∈T.cq:=(by rw[←hids,lz];simp[Tr.cq]);have hjl:=hg.kf.lt j hjT;have hul:=hg.ul;refine ac (aj h rfl (im (s:=s) h hin (JW h hin ?_)));rw[el];have h:au w0 S R w (aP q1 KI ((gz c1).reverse++[(j:Int)])^(ah t [.ptr (some ⟨a0,0⟩),.sl s,.int .i64 (T.rt+1),.int .i64 ks.length,.int .i64 rm]^aP s KN l1)^ah a0 [.sl s1,.sl s2,.int .i64 rm]^aP s1 KB us^aP s2 KI (fr.map λx:Nat=>(x:Int))^aT):=h.aG;refine aK h (λ_=>aP q1 KI ((gz c1).reverse++[(j:Int)])^(ah t [.ptr (some ⟨a0,0⟩),.sl s,.int .i64 (T.rt+1),.int .i64 ks.length,.int .i64 rm]^aP s KN l1)^ah a0 [.sl s1,.sl s2,.int .i64 rm]^aP s1 KB us^aP s2 KI (fr.map λx:Nat=>(x:Int))^aT) (λy:Int=>y=(Ar a b).rt) (λ(y:Int) w hy h=>?_) ?_
   ·rw[hy];have hwl:((gz c1).reverse++[(j:Int)]).length=c1.length+1:=by simp[gz]
    have e:IntKind.i64.wrap (((q1.len:Nat):Int)-1)=(c1.length:Int):=(by rw[hlq,hwl,wi (by omega) (by omega)];omega);rw[e];have hcap:=oz (s:=q1) h;refine vF (s:=q1) h 0 c1.length q1.cap rfl rfl rfl rfl (by omega) (by omega) (by omega) (by omega) λs' _ _ h=>?_;have e2:(((gz c1).reverse++[(j:Int)]).take c1.length).drop 0=(gz c1).reverse:=by
     have:c1.length=(gz c1).reverse.length:=(by simp[gz]);rw[this,Cv];rfl
    have h:=h.eB (s:=s') (K:=KI) e2;have hkid:(Ar a b).rt=-1∨In l1 (Ar a b).rt:=by
     have rin:∀t:Tr,g_ l1 t→t.rt=-1∨In l1 t.rt:=λt ht=>by
      cases t with
      |e=>exact .inl rfl
      |n L i k R=>exact .inr (nU ht).1
     cases a with
     |e=>exact rin b r1.2.2
     |n a1 i2 k2 a2=>exact rin _ r1.2.1
    refine bI (A:=ah t [.ptr (some ⟨a0,0⟩),.sl s,.int .i64 (T.rt+1),.int .i64 ks.length,.int .i64 rm]^aP s KN l1) (Q:=ba s' KI (gz c1).reverse) (nI t (some ⟨a0,0⟩) s (T.rt+1) ks.length rm l1 s' (gz c1).reverse j (Ar a b).rt (λx hx=>CY r2 x (List.mem_reverse.1 hx)) hkid 5000 hlk (by omega) (by simp[gz];omega) (by omega)) h λ_ w h=>?_;rw[List.reverse_reverse,hroot]at h;refine ac (aj h rfl (ac (aU h rfl λw h=>?_)));dsimp only[dj,over]at h;have hkn:ks.length=(ks.erase k).length+1:=by rw[List.length_erase_of_mem hk];have:=List.length_pos_of_mem hk;omega
    have ew:IntKind.i64.wrap ((ks.length:Int)-1)=((ks.erase k).length:Int):=(by rw[wi (by omega) (by omega)];omega);rw[ew]at h;refine ac (aj h rfl ?_);refine af (Lr a0 s1 s2 us (fr.map λx:Nat=>(x:Int)) rm (j:Int) ⟨by omega,by rw[eR];omega⟩ (by rw[eR];exact hg.on j hjT) (by rw[hul];exact hg.room) (by rw[kT];omega)) h λr w h=>?_;obtain⟨s2',h⟩:=h.lX;obtain⟨hr,h⟩:=h.aB;rw[eR]at h;have h:=h.eB (s:=s2') (K:=KI) (ys:=((fr++[j]).map λx:Nat=>(x:Int))) (by simp);exact au.aE hr (h.pY t _ T' (us.set j false) (fr++[j]) a0 s s1 s2' hgood).bk
   ·refine ae (λc=>?_) λc=>?_
    ·have c:a.rt=-1:=bV;have ha:a=.e:=by
      cases a with
      |e=>rfl
      |n a1 i2 k2 a2=>simp only[Tr.rt]at c;omega
     refine ac (aj h rfl (im (s:=s) h hin (MT h hin ?_)));exact⟨by rw[er,ha];rfl,h⟩
    ·have c:a.rt≠-1:=bV;refine⟨?_,h⟩;cases a with
     |e=>exact absurd rfl c
     |n a1 i2 k2 a2=>rfl
  have el:Tree.lt l (i:Int)=L.rt:=by rw[Tree.lt,hnt]
  have er:bG l (i:Int)=Rr.rt:=by rw[bG,hnt]
  have h:au w0 S R w (aP q KI ((gz c).reverse++[(i:Int)])^ah t [.ptr (some ⟨a0,0⟩),.sl s,.int .i64 (T.rt+1),.int .i64 ks.length,.int .i64 rm]^aP s KN l^ah a0 [.sl s1,.sl s2,.int .i64 rm]^aP s1 KB us^aP s2 KI (fr.map λx:Nat=>(x:Int))^aT):=(h.eB (s:=q) (K:=KI) (ys:=(gz c).reverse++[(i:Int)]) rfl).aG;refine⟨_,λ_ _ h=>h,?_⟩;refine aK h (λ_=>aP q KI ((gz c).reverse++[(i:Int)])^ah t [.ptr (some ⟨a0,0⟩),.sl s,.int .i64 (T.rt+1),.int .i64 ks.length,.int .i64 rm]^aP s KN l^ah a0 [.sl s1,.sl s2,.int .i64 rm]^aP s1 KB us^aP s2 KI (fr.map λx:Nat=>(x:Int))^aT) (λy:Bool=>y=(nE L&&nE Rr)) (λ(y:Bool) w hy h=>?_) ?_
  ·rw[hy];refine ae (λc2=>?_) λc2=>?_
   ·rw[fG]at c2;have hLn:L≠.e:=λe=>by rw[e]at c2;exact absurd c2.1 (by simp[nE])
    have hRn:Rr≠.e:=λe=>by rw[e]at c2;exact absurd c2.2 (by simp[nE])
    refine ac (aj h rfl (im (s:=s) h hin (MT h hin ?_)));rw[er];simp only[tz]at hcl;refine af (v7 t (some ⟨a0,0⟩) s ks.length rm l Rr r1.2.2 (by omega) (T.rt+1)) h λq2 w h=>?_;obtain⟨j,m,b,e1,d,e2,e3,e4⟩:=B3 Rr (.R L i k::c) hRn;have hfl:fill (.n .e j m b) d=Rr:=by
     have h1:=tW Rr (.R L i k::c);rw[e1,e2,yr]at h1;obtain⟨j',m',b',e1',d',e2',_⟩:=B3 Rr [] hRn;have h2:=tW Rr [];have h3:=sy Rr [];have h4:=sy Rr (.R L i k::c);have key:∀(t:Tr) (c:List je),fL t c=((fL t []).1,(fL t []).2++c):=by
      have:∀(t:Tr) (c c0:List je),fL t (c0++c)=((fL t c0).1,(fL t c0).2++c):=by
       intro t
       induction t with
       |e=>intro c c0;rfl
       |n l i x r ihl _=>
        intro c c0;cases l with
        |e=>rfl
        |n a1 i1 x1 b1=>
         simp only[fL];exact ihl c (.L i x r::c0)
      intro t c;have:=this t c [];simpa using this
     have hk2:=key Rr (.R L i k::c);have ed:d=(fL Rr []).2:=by
      have:(fL Rr (.R L i k::c)).2=(fL Rr []).2++(.R L i k::c):=(by rw[hk2]);rw[e2]at this;exact List.append_cancel_right this
     have et:(fL Rr []).1=.n .e j m b:=by
      have:(fL Rr (.R L i k::c)).1=(fL Rr []).1:=(by rw[hk2]);rw[←this,e1]
     rw[ed,←et];exact h2
    have hway:=sy Rr (.R L i k::c);rw[e1,e2]at hway;have hll:kb Rr=(gz d).reverse++[(j:Int)]:=by
     simp only[rX,gz,rO,List.reverse_append,kR]at hway;exact(List.append_cancel_left hway).symm
    have hRino:Rr.ino=m::(b.ino++rk d):=(by rw[←hfl,nK,e3];simp[Tr.ino]);have hRids:Rr.cq=j::(b.cq++rc d):=(by rw[←hfl,lz,e4];simp[Tr.cq]);have hszd:d.length+tz b+1≤tz Rr:=(by have:=BV d (.n .e j m b);rw[hfl]at this;simp only[tz]at this;omega);have hRR:g_ l (fill (.n .e j m b) d):=(by rw[hfl];exact r1.2.2);obtain⟨u1,u2⟩:=jH hRR;obtain⟨hjn,hjt⟩:=nU u1;have hlq2:=(h.rd (s:=q2)).2;have hql:q2.len=d.length+1:=(by rw[hlq2,hll];simp[gz]);have ew:IntKind.i64.wrap (((q2.len:Nat):Int)-1)=(d.length:Int):=(by rw[hql,wi (by omega) (by omega)];omega);rw[ew];have hat:(kb Rr)[((d.length:Nat):Int).toNat]?=some (j:Int):=by
     rw[hll,eR];have:d.length=(gz d).reverse.length:=by simp[gz]
     rw[this];simp
    refine bR (s:=q2) h (by omega) (by rw[hll];simp[gz]) (dW h q2 _ hat rfl ?_);refine aH h λw h=>ac (ac (aj h rfl (aj h rfl (im (s:=s) h hjn (UP h hjn (im (s:=s) h hin ?_))))));have ekj:jn l (j:Int)=m:=by rw[jn,hjt]
    rw[ekj];refine lT h s i 0 (nth l (i:Int)) (m.1,m.2,L.rt,Rr.rt,max L.ht Rr.ht+1) (by have:=nO hin;rwa[eR]at this) (by rw[eR];rfl) (by simp[Ks.mk]) (by simp[Ks.mk]) (by rw[hnt];rfl) λw h=>?_;have hql1:=(h.rd (s:=q2)).2;have h:=h.eB (s:=s) (K:=KN) (ys:=l.set i (m.1,m.2,L.rt,Rr.rt,max L.ht Rr.ht+1)) rfl;refine dE (s:=q) (x:=q2) h rfl (by rw[hll];simp[gz];omega) λs32 w _ h=>?_;have hil:i<l.length:=hg.kf.lt i (by rw[eids];simp);have hR1:g_ (l.set i (m.1,m.2,L.rt,Rr.rt,max L.ht Rr.ht+1)) (fill (.n L i m Rr) c):=by
     have hd2:=hdT;rw[eids]at hd2;simp only[jE,kU,eC,dO]at hd2;obtain⟨⟨hd3,⟨hd4,⟨hd5,hd6⟩,hd7⟩,hd8⟩,hd9,hd10⟩:=hd2;have ne:∀p,(p∈lc c∨p∈L.cq∨p∈Rr.cq∨p∈rc c)→(l.set i (m.1,m.2,L.rt,Rr.rt,max L.ht Rr.ht+1))[p]?=l[p]?:=λp hp=>by
      refine xd (show i≠p from λe=>?_);subst e;rcases hp with hp|hp|hp|hp
      ·exact hd8 i hp i (.inr (.inl rfl)) rfl
      ·exact hd7 i hp i (.inl rfl) rfl
      ·exact hd5 hp
      ·exact hd10 i (.inr (.inr (.inl rfl))) i hp rfl
     refine zM (t:=.n L i k Rr) rfl rfl hR ⟨by rw[rJ hil],r1.2.1.frame λp hp=>ne p (.inr (.inl hp)),r1.2.2.frame λp hp=>ne p (.inr (.inr (.inl hp)))⟩ λp hp=>ne p (hp.imp (λx=>x) λx=>.inr (.inr x))
    have hA1:(fill (.n L i m Rr) c).oT:=by
     have hav:(Tr.n L i k Rr).oT:=my hA;exact x_ (t:=.n L i k Rr) rfl ⟨hav.1,hav.2.1,hav.2.2⟩ hA
    have hT1:fill (.n L i m Rr) c=fill (.n .e j m b) (d++.R L i m::c):=(by rw[yr,hfl];rfl);have hlk1:Lk (l.set i (m.1,m.2,L.rt,Rr.rt,max L.ht Rr.ht+1)) 5000:=by
     have hx:=hg.lk (i:Int) hin;simp only[Tree.lt,bG,hh,hnt]at hx;have:=hg.lk.set (C:=5000) (ku _) (i:=(i:Int)) hin (x:=(m.1,m.2,L.rt,Rr.rt,max L.ht Rr.ht+1)) hx.1 hx.2.1 hx.2.2;rwa[eR]at this
    have h:=h.eB (s:=s32) (K:=KI) (ys:=(gz (d++.R L i m::c)).reverse++[(j:Int)]) (by rw[hll];simp[gz,je.i]);refine aG w (l.set i (m.1,m.2,L.rt,Rr.rt,max L.ht Rr.ht+1)) .e b j m (d++.R L i m::c) s32 (by rw[←hT1];exact hR1) (.inl rfl) (by rw[←hT1];exact hA1) ?_ hlk1 qB ?_ (by simp;omega) h.aG
    ·rw[←hT1,lz,eids];rfl
    ·rw[hera,FP,GI,e3,hRino];simp[lk,rk,Tr.ino]
   ·have hab:L=.e∨Rr=.e:=by
     cases L with
     |e=>exact .inl rfl
     |n l1 i1 k1 l2=>cases Rr with
      |e=>exact .inr rfl
      |n l3 i3 k3 l4=>cases c2
    simp only[tz]at hcl;exact aG w l L Rr i k c q hR hab hA (by rw[hfill]) hg.lk rfl (by rw[hera];simp) (by omega) h
  ·refine ac (aj h rfl (im (s:=s) h hin (JW h hin ?_)));rw[el];refine ae (λc2=>?_) λc2=>?_
   ·have c2:L.rt≠-1:=gk;refine ac (aj h rfl (im (s:=s) h hin (MT h hin ?_)));rw[er];refine⟨?_,h⟩;cases L with
    |e=>exact absurd rfl c2
    |n l1 i1 k1 l2=>
     cases Rr with
     |e=>simp[nE,Tr.rt]
     |n l3 i3 k3 l4=>simp[nE,Tr.rt]
   ·have c2:L.rt=-1:=gk;refine⟨?_,h⟩;cases L with
    |e=>rfl
    |n l1 i1 k1 l2=>simp only[Tr.rt]at c2;omega
end lp

namespace fg
open _root_.Go.X.Tree xV AE iy kj lp
def spine:Tr→List Tr
 |.e=>[]
 |.n l i k r=>.n l i k r::spine l
def PK:Tr→List Key
 |.e=>[]
 |.n _ _ k r=>k::r.ino
def uf(st:List Tr):List Key:=st.reverse.flatMap PK
theorem sH:∀t:Tr,uf (spine t)=t.ino
 |.e=>rfl
 |.n l i k r=>by
  have:=sH l;simp only[spine,uf,List.reverse_cons,List.flatMap_append,zt,List.flatMap_nil,Tr.ino,PK]at*;rw[this];simp
theorem HV(a b:List Tr):uf (a++b)=uf b++uf a:=by simp[uf]
def C4(st:List Tr):List Int:=st.map Tr.rt
theorem sM:∀t:Tr,C4 (spine t)=kb t
 |.e=>rfl
 |.n l i k r=>by
  have:=sM l;simp only[C4,spine,kq,kb,Tr.rt]at*;rw[this]
theorem xN:∀(t:Tr),∀x∈spine t,∃l i k r,x=.n l i k r
 |.e,x,h=>by simp[spine]at h
 |.n l i k r,x,h=>by
  simp only[spine,dO]at h;rcases h with rfl|h
  ·exact⟨l,i,k,r,rfl⟩
  ·exact xN l x h
theorem wH{l:List Nd}:∀{t:Tr},g_ l t→∀x∈spine t,g_ l x
 |.e,_,x,h=>by simp[spine]at h
 |.n a i k r,h,x,hx=>by
  simp only[spine,dO]at hx;rcases hx with rfl|hx
  ·exact h
  ·exact wH h.2.1 x hx
theorem HK(st:List Tr)(h:∀x∈st,∃l i k r,x=.n l i k r):st.length≤(uf st).length:=by
 induction st with
 |nil=>simp
 |cons x st ih=>
  have:=ih λy hy=>h y (by simp[hy]);obtain⟨l,i,k,r,rfl⟩:=h x (by simp);have e:uf (.n l i k r::st)=uf st++(k::r.ino):=by
   simp[uf,PK]
  rw[e];simp;omega
def uV(n:Nat):Fv:=.mk (.func ju) [] [V1.enc (.lf (.ptr (some ⟨n,0⟩)))]
theorem iJ(p:Option Pt):bm (Ot p) aT (λf=>ex λn=>bh (f=uV n) (ah n [.ptr p])):=
 br λw S R h=>by
  refine aA h λn1 w h=>?_;exact au.gX n1 (au.aE rfl h.bk)
theorem CP:∀t:Tr,tz t=t.ino.length
 |.e=>rfl
 |.n l i k r=>by simp[tz,Tr.ino,CP l,CP r];omega
theorem lq(n t:Nat)(rm:Int)(ks:List Key):Iter Tryz.prog (uV n) (ah n [.ptr (some ⟨t,0⟩)]^tree rm t ks) [.agg [.int .u64,.int .u64]] ks:=by
 intro y I D hy;refine xW.g (f:=ju) (args:=[.lf (.fn y)]) (caps:=[.lf (.ptr (some ⟨n,0⟩))]) (br (c:=Vm y ⟨n,0⟩) λw0 S R h=>?_);obtain⟨l,T,us,fr,a,s,s1,s2,hg,h⟩:=h.tree rm t;obtain⟨b1,b2,b3,b4⟩:=hg.small;have hino:=hg.ino;refine aj h rfl ?_;refine af (zQ t (some ⟨a,0⟩) s ks.length rm l T hg.kf b1) h λr w h=>?_;obtain⟨hr,h⟩:=h.aB;rw[hr];refine ae (λc=>?_) λc=>?_
 ·have c:T.rt=-1:=bV;have hT:T=.e:=by
   cases T with
   |e=>rfl
   |n L i k R=>simp only[Tr.rt]at c;omega
  have hk:ks.length=0:=by rw[←hino,hT];rfl
  have h:=(h.pY t l T us fr a s s1 s2 hg);have h:au _ _ _ _ (I 0^ah n [.ptr (some ⟨t,0⟩)]^tree rm t ks):=h.aG;rw[hk];exact(h.uE D).aG
 refine aH h λw h=>aj h rfl (aj h rfl ?_);refine af (zQ t (some ⟨a,0⟩) s ks.length rm l T hg.kf b1) h λr w h=>?_;obtain⟨hr,h⟩:=h.aB;rw[hr];refine aI h rfl ?_;refine af (v7 t (some ⟨a,0⟩) s ks.length rm l T hg.kf b2 (T.rt+1)) h λq w h=>?_;have h:=h.eB (s:=q) (K:=KI) (ys:=C4 (spine T)) (sM T).symm;have h:au w0 S R w (aP q KI (C4 (spine T))^(ah t [.ptr (some ⟨a,0⟩),.sl s,.int .i64 (T.rt+1),.int .i64 ks.length,.int .i64 rm]^aP s KN l)^ah a [.sl s1,.sl s2,.int .i64 rm]^aP s1 KB us^aP s2 KI (fr.map λx:Nat=>(x:Int))^ah n [.ptr (some ⟨t,0⟩)]^I 0):=h.aG;refine gn (λ(q:Sl) (x:Nat×List Tr)=>aP q KI (C4 x.2)^(ah t [.ptr (some ⟨a,0⟩),.sl s,.int .i64 (T.rt+1),.int .i64 ks.length,.int .i64 rm]^aP s KN l)^ah a [.sl s1,.sl s2,.int .i64 rm]^aP s1 KB us^aP s2 KI (fr.map λx:Nat=>(x:Int))^ah n [.ptr (some ⟨t,0⟩)]^I x.1)
  (λ(_:Sl) (x:Nat×List Tr)=>ks.drop x.1=uf x.2∧(∀z∈x.2,∃l i k r,z=.n l i k r)∧(∀z∈x.2,g_ l z)∧x.1≤ks.length) (λ(_:Sl) (x:Nat×List Tr)=>ks.length-x.1) (0,spine T) h ⟨by rw[sH,hino];rfl,xN T,wH hg.kf,kv _⟩ ?_
 rintro K (q:Sl) ⟨i,st⟩ w ⟨hd,hn,hrep,hle⟩ h hK;dsimp only at hd hn hrep hle h hK⊢;have hlq:=(h.rd (s:=q)).2;have hst:=HK st hn;rw[←hd,zx]at hst;have hrl:(C4 st).length=st.length:=by simp[C4]
 refine ae (λc=>?_) λc=>?_
 ·have c:((q.len:Nat):Int)>0:=bJ c;have hne:st≠[]:=λe=>by
   have e2:(C4 st).length=0:=(jF (λz=>(C4 z).length) e).trans rfl;omega
  obtain⟨f,z,hfz⟩:∃f z,st=f++[z]:=⟨st.dropLast,st.getLast hne,(MA hne).symm⟩;obtain⟨L,j,m,Rr,hz⟩:=hn z (by rw[hfz];simp);have hRz:g_ l (.n L j m Rr):=by rw[←hz];exact hrep z (by rw[hfz];simp)
  obtain⟨hin,hnt⟩:=nU hRz;have er:bG l (j:Int)=Rr.rt:=by rw[bG,hnt]
  have ek:jn l (j:Int)=m:=by rw[jn,hnt]
  have hfl:st.length=f.length+1:=by rw[hfz];simp
  have hrs:C4 st=C4 f++[(j:Int)]:=by rw[hfz,hz];simp[C4,Tr.rt]
  have hrf:(C4 f).length=f.length:=by simp[C4]
  have e:IntKind.i64.wrap (((q.len:Nat):Int)-1)=(f.length:Int):=by rw[wi (by omega) (by omega)];omega
  rw[e];refine bR (s:=q) h (by omega) (by omega) (dW h q ((f.length:Nat):Int).toNat (y:=(j:Int)) (by rw[hrs,eR,←hrf];simp) rfl ?_);have hcap:=oz (s:=q) h;refine vF (s:=q) h 0 f.length q.cap rfl rfl rfl rfl (by omega) (by omega) (by omega) (by omega) λs11 _ _ h=>?_;have h:=h.eB (s:=s11) (K:=KI) (ys:=C4 f) (by rw[hrs,←hrf,Cv];rfl);have hks:ks.drop i=m::(Rr.ino++uf f):=by
   rw[hd,hfz,HV,hz];simp[uf,PK]
  have hki:ks[i]?=some m:=by
   have:=jF (λz=>z[0]?) hks;simpa using this
  have hil:i<ks.length:=(gJ.1 hki).1;refine aj h rfl (ac (aj h rfl (im (s:=s) h hin (UP h hin ?_))));rw[ek];have ht:xo Tryz.prog y [.agg (Ks.mk [.int .u64,.int .u64] m)] [.lf .bool] (I i) (λc=>cond c (I (i+1)) D):=hy i m hki;refine np ht h λc w h=>?_;cases c with
  |false=>
   refine ae (λc=>?_) λc=>by cases c
   have h:au _ _ _ _ (D^_):=h;have h:=(h.pY t l T us fr a s s1 s2 hg);have h:au _ _ _ _ (D^ah n [.ptr (some ⟨t,0⟩)]^tree rm t ks):=h.aG;exact(h.xz (I ks.length)).aG
  |true=>
   refine ae (λc=>by cases c) λc=>?_;have h:au _ _ _ _ (I (i+1)^_):=h;refine aH h λw h=>aj h rfl (aj h rfl (ac (aj h rfl (im (s:=s) h hin (MT h hin ?_)))));rw[er];have hsz:tz Rr≤4096:=by
    have h1:=jF List.length hks;rw[zx]at h1;have h2:=CP Rr;simp at h1;omega
   refine af (v7 t (some ⟨a,0⟩) s ks.length rm l Rr hRz.2.2 hsz (T.rt+1)) h λq2 w h=>?_;have hl2:(kb Rr).length≤4096:=by
    have h1:=HK (spine Rr) (xN Rr);rw[sH]at h1;have h2:(kb Rr).length=(spine Rr).length:=(by rw[←sM];simp[C4]);have h3:=CP Rr;omega
   refine dE (s:=s11) (x:=q2) h rfl (by omega) λs25 w _ h=>?_;have h:=h.eB (s:=s25) (K:=KI) (ys:=C4 (f++spine Rr)) (by rw[←sM];simp[C4]);refine hK s25 (i+1,f++spine Rr) w ⟨?_,λz hz=>?_,λz hz=>?_,by show i+1≤_;omega⟩ h.aG (by show _-(i+1)<_-i;omega)
   ·show ks.drop (i+1)=uf (f++spine Rr);rw[HV,sH];have:=jF (λz=>z.drop 1) hks;simpa using this
   ·rcases eC.1 hz with hz|hz
    ·exact hn z (by rw[hfz];simp[hz])
    ·exact xN Rr z hz
   ·rcases eC.1 hz with hz|hz
    ·exact hrep z (by rw[hfz];simp[hz])
    ·exact wH hRz.2.2 z hz
 ·have c:¬((q.len:Nat):Int)>0:=bQ c;have hst0:st=[]:=jD (by omega);rw[hst0]at hd;have hi:i=ks.length:=by
   have:=jF List.length hd;rw[zx]at this;simp[uf]at this;omega
  rw[hi]at h;have h:=(h.pY t l T us fr a s s1 s2 hg);have h:au _ _ _ _ (I ks.length^ah n [.ptr (some ⟨t,0⟩)]^tree rm t ks):=h.aG;exact(h.uE D).aG
def ni(ks:List Key):Key×Bool:=match ks with
 |[]=>((0,0),false)
 |k::_=>(k,true)
theorem B7(t:Nat)(rm:Int)(ks:List Key):bm (RD (some ⟨t,0⟩)) (tree rm t ks) (λr=>bh (r=ni ks) (tree rm t ks)):=
 Q3 λw S R h=>by
  refine aA h λn1 w h=>?_;refine aA h λn2 w h=>?_;refine aK h (λ_=>ah n1 [.int .u64 (0:Int),.int .u64 (0:Int)]^ah n2 [.bool false]^tree rm t ks) (λ_=>ks=[]) (λy w hv h=>?_) ?_
  ·refine aw h (by rfl) λw h=>aw h (by rfl) λw h=>?_;refine ar (b:=n1) (x:=((0,0):Int×Int)) h rfl (aj h rfl ?_);refine aN h λw h=>?_;exact au.aE (by rw[hv];rfl) h.aG
  ·refine af (iJ _) (h.le (aF _)) λf w h=>?_;obtain⟨n,h⟩:=h.lX;obtain⟨hf,h⟩:=h.aB;rw[hf];have h:=(h.take (ah n1 [.int .u64 (0:Int),.int .u64 (0:Int)]^ah n2 [.bool false])).iF (p:=(0:Nat)=0) rfl;refine oF (lq n t rm ks) (λi=>bh (i=0) (ah n1 [.int .u64 (0:Int),.int .u64 (0:Int)]^ah n2 [.bool false])) (λj=>bh (j=1) (ah n1 (Ks.mk KR (ni ks).1)^ah n2 [.bool (ni ks).2])) h ?_ ?_ ?_
   ·rintro i (x:Key) hx w S R A4 next jump rdy bsy hmid hnext hjump h
    refine aA h λn10 w h=>aw h (by rfl) λw h=>?_;refine hmid h λw h=>?_;have h:=h.take (bh (i=0) (ah n1 [.int .u64 (0:Int),.int .u64 (0:Int)]^ah n2 [.bool false]));obtain⟨hi,h⟩:=h.aB;have hv:ni ks=(x,true):=by
     rw[hi]at hx;cases ks with
     |nil=>cases hx
     |cons y l=>cases hx;rfl
    rw[hv]at hjump;refine ar (b:=n10) (x:=x) h rfl ?_;refine aw h (by rfl) λw h=>aw h (by rfl) λw h=>?_;have h:=(h.take (ah n1 (Ks.mk KR x)^ah n2 [.bool true])).iF (p:=1=1) rfl;exact hjump 1 (by decide) h
   ·intro w h;have h:=h.take (bh (ks.length=0) (ah n1 [.int .u64 (0:Int),.int .u64 (0:Int)]^ah n2 [.bool false]));obtain⟨hno,h⟩:=h.aB;exact⟨jD hno,h.aG⟩
   ·intro j w hj h;have h:=h.take (bh (j=1) (ah n1 (Ks.mk KR (ni ks).1)^ah n2 [.bool (ni ks).2]));obtain⟨hj1,h⟩:=h.aB;rw[hj1];refine ar (b:=n1) (x:=(ni ks).1) h rfl (aj h rfl ?_);refine aN h λw h=>?_;exact au.aE rfl h.aG
end fg

namespace lK
open bB ff _root_.Go.X.Tree iy kj
abbrev Sg:=Int×Int×Int×Int×Bool
abbrev Cf:=Int×Int×Int×Int×Int×Int×Bool×Int×Int
abbrev KC:Ks:=[.int .i64,.int .i64,.int .i64,.int .i64,.int .u64,.int .u64,.bool,.int .i64,.int .i64]
abbrev KS:Ks:=[.int .i64,.int .u64,.int .i64,.int .u64,.bool]
abbrev cQ(c:Cf):Int:=c.1
abbrev cF(c:Cf):Int:=c.2.1
abbrev cL(c:Cf):Int:=c.2.2.1
abbrev cW(c:Cf):Int:=c.2.2.2.1
abbrev cH(c:Cf):Int:=c.2.2.2.2.1
abbrev cR(c:Cf):Int:=c.2.2.2.2.2.1
abbrev cD(c:Cf):Bool:=c.2.2.2.2.2.2.1
abbrev dM(c:Cf):Int:=c.2.2.2.2.2.2.2.1
abbrev eF(c:Cf):Int:=c.2.2.2.2.2.2.2.2
abbrev sK(s:Sg):Int:=s.1
abbrev P5(s:Sg):Int:=s.2.1
abbrev k_(s:Sg):Int:=s.2.2.1
abbrev ur(s:Sg):Int:=s.2.2.2.1
abbrev sAg(s:Sg):Bool:=s.2.2.2.2
def may(c:Cf):Bool:=decide (100≤cQ c∧cQ c≤65536)&&(decide (100≤cF c∧cF c≤65536)&&(decide (1≤cL c∧cL c≤512)&&(decide (1≤cW c∧cW c≤512)&&(decide (cH c≤4611686018427387904)&&(decide (1≤dM c∧dM c≤1073741824)&&decide (100≤eF c∧eF c≤9000))))))
structure Af(c:Cf):Prop where
 q:100≤cQ c∧cQ c≤65536
 f:100≤cF c∧cF c≤65536
 l:1≤cL c∧cL c≤512
 w:1≤cW c∧cW c≤512
 h:0≤cH c∧cH c≤4611686018427387904
 r:U (cR c)
 cap:1≤dM c∧dM c≤1073741824
 bn:100≤eF c∧eF c≤9000
theorem yJ{c:Cf}(h:may c=true)(h0:0≤cH c)(hr:U (cR c)):Af c:=by
 simp only[may,fG,gK]at h;exact⟨h.1,h.2.1,h.2.2.1,h.2.2.2.1,⟨h0,h.2.2.2.2.1⟩,hr,h.2.2.2.2.2.1,h.2.2.2.2.2.2⟩
structure Fl where
 cr:Int
 nx:Int
 si:Int
 sg:List Sg
structure Qm where
 c:Cf
 fl:Nat→Option Fl
 lv:LV
 ks:List Key
 n:Int
structure oX(s:Sg):Prop where
 fr:U (P5 s)
 ln:1≤k_ s∧k_ s≤65536
 st:U (ur s)
structure Wl(i:Nat)(f:Fl):Prop where
 cr:-65536<f.cr∧f.cr≤65536
 nx:U f.nx
 si:U f.si
 sg:∀s∈f.sg,sK s=i∧oX s
def da(f:Fl):Int:=match f.sg with
 |[]=>f.nx
 |s::_=>if ur s>f.nx then ur s else f.nx
def vG(x:Option Fl):Int:=match x with
 |none=>0
 |some f=>f.sg.length
def EL(fl:Nat→Option Fl):Nat→Int
 |0=>0
 |n+1=>EL fl n+vG (fl n)
def ng(v:LV)(i:Nat):Prop:=(i:Int)∈v.1++v.2
structure iQ(v:Qm):Prop where
 cf:Af v.c
 lv:vH v.lv
 th:∀i,ng v.lv i→∃f,v.fl i=some f
 fl:∀i f,v.fl i=some f→i<8∧Wl i f
 ks:∀k,k∈v.ks↔∃(i:Nat) (f:Fl),v.fl i=some f∧f.sg≠[]∧¬ng v.lv i∧k=(da f,(i:Int))
 wI:z_ v.ks
 n:v.n=EL v.fl 8
 le:v.n≤512
def jT(fl:Nat→Option Fl)(i:Nat)(x:Option Fl):Nat→Option Fl:=λj=>if j=i then x else fl j
theorem cg(fl:Nat→Option Fl)(i:Nat)(x:Option Fl):jT fl i x i=x:=by simp[jT]
theorem dX(fl:Nat→Option Fl){i j:Nat}(x:Option Fl)(h:j≠i):jT fl i x j=fl j:=by simp[jT,h]
theorem Ft(x:Option Fl):0≤vG x:=by unfold vG;split<;>omega
theorem CQ(fl:Nat→Option Fl):∀n,0≤EL fl n
 |0=>ku 0
 |n+1=>by have:=CQ fl n;have:=Ft (fl n);simp only[EL];omega
theorem Nw(fl:Nat→Option Fl)(i:Nat)(x:Option Fl):∀n,EL (jT fl i x) n=EL fl n+if i<n then vG x-vG (fl i)else 0
 |0=>by simp[EL]
 |n+1=>by
  simp only[EL,Nw fl i x n];by_cases h:n=i
  ·subst h;rw[cg];simp;omega
  ·rw[dX _ _ h];by_cases h2:i<n
   ·rw[aC h2,aC (by omega)];omega
   ·rw[ay h2,ay (by omega)];omega
theorem Nv(fl:Nat→Option Fl):∀{n i:Nat},i<n→vG (fl i)≤EL fl n
 |n+1,i,h=>by
  have h1:=Ft (fl n);have h2:=CQ fl n;simp only[EL];by_cases e:i=n
  ·subst e;omega
  ·have:=Nv fl (n:=n) (i:=i) (by omega);omega
theorem iQ.len{v:Qm}(h:iQ v){i:Nat}{f:Fl}(hf:v.fl i=some f):(f.sg.length:Int)≤v.n∧f.sg.length≤512:=by
 have h1:=Nv v.fl (h.fl i f hf).1;have h2:=h.n;have h3:=h.le;rw[hf]at h1;have h1:(f.sg.length:Int)≤EL v.fl 8:=h1;omega
theorem iQ.n0{v:Qm}(h:iQ v):0≤v.n:=by rw[h.n];exact CQ _ _
def eM(v:Qm)(i:Nat):Int:=if bH v.lv i≠0 then bH v.lv i else match v.fl i with
 |none=>0
 |some f=>if f.sg=[]then 0 else 3
theorem nP{v:LV}{i:Nat}:bH v i≠0↔ng v i:=by
 rw[ne_eq,lD];unfold ng;exact wh
theorem y5{v:Qm}{i:Nat}:eM v i=0↔¬ng v.lv i∧∀f,v.fl i=some f→f.sg=[]:=by
 unfold eM;split
 ·rename_i h;have h2:=nP.1 h;exact⟨λe=>absurd e h,λe=>absurd h2 e.1⟩
 ·rename_i h;have h2:¬ng v.lv i:=λe=>h (nP.2 e);cases hf:v.fl i with
  |none=>exact⟨λ_=>⟨h2,λf hh=>by cases hh⟩,λ_=>rfl⟩
  |some f=>
   simp only;split
   ·rename_i h3;exact⟨λ_=>⟨h2,λg hg=>by cases hg;exact h3⟩,λ_=>rfl⟩
   ·rename_i h3;exact⟨λe=>(by cases e),λe=>absurd (e.2 f rfl) h3⟩
theorem va{v:Qm}{i:Nat}:eM v i=3↔¬ng v.lv i∧∃f,v.fl i=some f∧f.sg≠[]:=by
 unfold eM;split
 ·rename_i h;have h2:=nP.1 h;refine⟨λe=>?_,λe=>absurd h2 e.1⟩;unfold bH at e;split at e
  ·cases e
  ·split at e<;>cases e
 ·rename_i h;have h2:¬ng v.lv i:=λe=>h (nP.2 e);cases hf:v.fl i with
  |none=>exact⟨λe=>(by cases e),λ⟨_,f,hh,_⟩=>(by cases hh)⟩
  |some f=>
   simp only;split
   ·rename_i h3;exact⟨λe=>(by cases e),λ⟨_,g,hg,h4⟩=>by cases hg;exact absurd h3 h4⟩
   ·rename_i h3;exact⟨λ_=>⟨h2,f,rfl,h3⟩,λ_=>rfl⟩
def idle(v:Qm)(i:Nat)(qI ao:Int):Bool:=match v.fl i with
 |none=>false
 |some f=>decide (eM v i=0)&&decide (bA f.si qI≤ao)
abbrev bD(v:Qm)(ao:Int):Qm:={v with fl:=λi=>if idle v i 3000000000 ao then none else v.fl i}
theorem pj{v:Qm}{i:Nat}{qI ao:Int}(h:idle v i qI ao=true):∃f,v.fl i=some f∧f.sg=[]∧¬ng v.lv i:=by
 unfold idle at h;split at h
 ·cases h
 ·rename_i f hf;rw[fG,gK]at h;have:=y5.1 h.1;exact⟨f,hf,this.2 f hf,this.1⟩
theorem H5{fl gl:Nat→Option Fl}:∀n,(∀i,i<n→vG (fl i)=vG (gl i))→EL fl n=EL gl n
 |0,_=>rfl
 |n+1,h=>by simp only[EL,H5 n λi hi=>h i (by omega),h n (by omega)]
theorem iQ.collect{v:Qm}(h:iQ v)(ao:Int):iQ (bD v ao) where
 cf:=h.cf
 lv:=h.lv
 th i hi:=by
  obtain⟨f,hf⟩:=h.th i hi;refine⟨f,?_⟩;show(if _ then _ else _)=_;rw[ay,hf];intro e;obtain⟨_,_,_,h3⟩:=pj e;exact h3 hi
 fl i f hf:=by
  have hf:(if idle v i 3000000000 ao then none else v.fl i)=some f:=hf;split at hf
  ·cases hf
  ·exact h.fl i f hf
 ks k:=by
  rw[show(bD v ao).ks=v.ks from rfl,h.ks];constructor
  ·rintro⟨i,f,h1,h2,h3,h4⟩;refine⟨i,f,?_,h2,h3,h4⟩;show(if _ then _ else _)=_;rw[ay,h1];intro e;obtain⟨g,hg,h5,_⟩:=pj e;rw[h1]at hg;cases hg;exact h2 h5
  ·rintro⟨i,f,h1,h2,h3,h4⟩;have h1:(if idle v i 3000000000 ao then none else v.fl i)=some f:=h1;split at h1
   ·cases h1
   ·exact⟨i,f,h1,h2,h3,h4⟩
 wI:=h.wI
 n:=by
  show v.n=_;rw[h.n];refine H5 8 λi _=>?_;show _=vG (if _ then _ else _);split
  ·rename_i e;obtain⟨f,hf,h5,_⟩:=pj e;rw[hf];simp[vG,h5]
  ·rfl
 le:=h.le
def h_(v:Qm)(s:Sg)(ao:Int):Int:=
 if v.n≥cL v.c then 2
 else if(∃f,v.fl (sK s).toNat=some f∧(f.sg.length:Int)≥cW v.c)then 3
 else if ur s>bA ao (cH v.c)∧cD v.c=true then 4 else 0
def drawn(v:Qm)(s:Sg)(ao:Int):Sg:=(sK s,P5 s,k_ s,(if bA ao (cH v.c)<ur s then bA ao (cH v.c)else ur s),sAg s)
def fF(v:Qm)(i:Nat)(ao:Int):Fl:=match v.fl i with
 |none=>⟨cF v.c,0,0,[]⟩
 |some f=>if eM v i≠0 then f else{f with cr:=if idle v i 40000000 ao then(if cQ v.c>f.cr then cQ v.c else f.cr)else f.cr,si:=0}
def j_(v:Qm)(i:Nat):LV:=if eM v i≠0 then v.lv else(jX v.lv i true).2
abbrev eE(v:Qm)(i:Nat)(ao:Int):Qm:={v with fl:=jT v.fl i (some (fF v i ao)),lv:=j_ v i}
def kl(v:Qm)(i:Nat)(s:Sg):Qm:=match v.fl i with
 |none=>v
 |some f=>{v with fl:=jT v.fl i (some {f with sg:=f.sg++[s]}),n:=v.n+1}
def fo(v:Qm)(s:Sg)(ao:Int):(Int×Int)×Qm:=
 if ¬(0≤sK s∧sK s≤7)then((0,8),v)
 else if ¬(1≤k_ s∧k_ s≤65536)then((0,1),v)
 else if h_ (bD v ao) s ao=0 then((0,0),kl (eE (bD v ao) (sK s).toNat ao) (sK s).toNat (drawn v s ao))
 else((h_ (bD v ao) s ao,0),bD v ao)
theorem F4{v:LV}{i:Nat}(hi:i<8)(h:¬ng v i):(jX v i true)=(0,(v.1++[(i:Int)],v.2)):=by
 have hp:bH v i=0:=by
  cases hh:decide (bH v i=0)with
  |true=>exact bJ hh
  |false=>exact absurd (nP.1 (bQ hh)) h
 rw[jX,ay (by omega),ay (by rw[hp];simp),aC rfl]
theorem PS{v:LV}{i:Nat}(hi:i<8)(h:¬ng v i):(jX v i false)=(0,(v.1,v.2++[(i:Int)])):=by
 have hp:bH v i=0:=by
  cases hh:decide (bH v i=0)with
  |true=>exact bJ hh
  |false=>exact absurd (nP.1 (bQ hh)) h
 rw[jX,ay (by omega),ay (by rw[hp];simp),ay (by simp)]
theorem BZ{v:Qm}{i j:Nat}(hi:i<8):ng (j_ v i) j↔ng v.lv j∨(j=i∧eM v i=0):=by
 unfold j_;split
 ·rename_i h;exact⟨.inl,λe=>e.elim id λe=>absurd e.2 h⟩
 ·rename_i h;have h0:eM v i=0:=by omega
  have hn:=(y5.1 h0).1;rw[F4 hi hn];unfold ng;simp only[eC,jY];constructor
  ·rintro((h|h)|h)
   ·exact .inl (.inl h)
   ·exact .inr ⟨by omega,h0⟩
   ·exact .inl (.inr h)
  ·rintro((h|h)|⟨rfl,_⟩)
   ·exact .inl (.inl h)
   ·exact .inr h
   ·exact .inl (.inr rfl)
theorem Me{v:Qm}{i:Nat}(h:vH v.lv):vH (j_ v i):=by
 unfold j_;split
 ·exact h
 ·exact h.push _ _
theorem z8(v:Qm)(i:Nat)(ao:Int):(fF v i ao).sg=match v.fl i with|none=>[]|some f=>f.sg:=by
 unfold fF;cases v.fl i with
 |none=>rfl
 |some f=>simp only;split<;>rfl
theorem NK{v:Qm}(h:iQ v)(i:Nat)(ao:Int):Wl i (fF v i ao):=by
 unfold fF;have hc:=h.cf;cases hf:v.fl i with
 |none=>exact⟨by have:=hc.f;simp only;omega,aX 0,aX 0,λs hs=>by cases hs⟩
 |some f=>
  have hk:=(h.fl i f hf).2;simp only;split
  ·exact hk
  ·refine⟨?_,hk.nx,aX 0,hk.sg⟩;have h1:=hk.cr;have h2:=hc.q;simp only
   (repeat' split)<;>omega
theorem add_eq(v:Qm)(i:Nat)(ao:Int)(s:Sg):kl (eE v i ao) i s={v with fl:=jT v.fl i (some {fF v i ao with sg:=(fF v i ao).sg++[s]}),lv:=j_ v i,n:=v.n+1}:=by
 unfold kl eE;simp only[cg]
 congr 1
 funext j
 by_cases h:j=i
 ·rw[h,cg,cg]
 ·rw[dX _ _ h,dX _ _ h,dX _ _ h]
theorem EI{f:Fl}{s:Sg}(h:f.sg≠[]):da {f with sg:=f.sg++[s]}=da f:=by
 unfold da;cases hs:f.sg with
 |nil=>exact absurd hs h
 |cons x l=>rfl
theorem iQ.dj{v:Qm}(h:iQ v){i:Nat}(hi:i<8)(x:Option Fl)(lv':LV)(ks':List Key)(n':Int)(hlv:vH lv')(hin:∀j,j≠i→(ng lv' j↔ng v.lv j))(hxi:ng lv' i→∃f,x=some f)(hx:∀f,x=some f→Wl i f)
  (hks:∀k,k∈ks'↔(k∈v.ks∧k.2≠(i:Int))∨∃f,x=some f∧f.sg≠[]∧¬ng lv' i∧k=(da f,(i:Int))) (hsrt:z_ ks') (hn:n'=v.n+vG x-vG (v.fl i)) (hle:n'≤512):
  iQ {v with fl:=jT v.fl i x,lv:=lv',ks:=ks',n:=n'}:=by
 refine⟨h.cf,hlv,λj hj=>?_,λj f hf=>?_,λk=>?_,hsrt,?_,hle⟩
 ·have hj:ng lv' j:=hj;show ∃f,jT v.fl i x j=some f;by_cases e:j=i
  ·subst e;obtain⟨f,hf⟩:=hxi hj;exact⟨f,(cg _ _ _).trans hf⟩
  ·obtain⟨f,hf⟩:=h.th j ((hin j e).1 hj);exact⟨f,(dX _ _ e).trans hf⟩
 ·have hf:jT v.fl i x j=some f:=hf;by_cases e:j=i
  ·subst e;rw[cg]at hf;exact⟨hi,hx f hf⟩
  ·rw[dX _ _ e]at hf;exact h.fl j f hf
 ·show k∈ks'↔∃(j:Nat) (f:Fl),jT v.fl i x j=some f∧f.sg≠[]∧¬ng lv' j∧k=(da f,(j:Int));rw[hks,h.ks];constructor
  ·rintro(⟨⟨j,f,h1,h2,h3,h4⟩,h5⟩|⟨f,h1,h2,h3,h4⟩)
   ·have e:j≠i:=λe=>h5 (by rw[h4,e]);exact⟨j,f,(dX _ _ e).trans h1,h2,λhh=>h3 ((hin j e).1 hh),h4⟩
   ·exact⟨i,f,(cg _ _ _).trans h1,h2,h3,h4⟩
  ·rintro⟨j,f,h1,h2,h3,h4⟩;by_cases e:j=i
   ·subst e;rw[cg]at h1;exact .inr ⟨f,h1,h2,h3,h4⟩
   ·rw[dX _ _ e]at h1;exact .inl ⟨⟨j,f,h1,h2,λhh=>h3 ((hin j e).2 hh),h4⟩,by rw[h4];intro hh;exact e (by have hh:(j:Int)=i:=hh;omega)⟩
 ·show n'=EL (jT v.fl i x) 8;rw[Nw,aC hi,hn,h.n];omega
theorem iQ.key{v:Qm}(h:iQ v){i:Nat}{k:Key}(hk:k∈v.ks)(e:k.2=(i:Int)):∃f,v.fl i=some f∧f.sg≠[]∧¬ng v.lv i∧k=(da f,(i:Int)):=by
 obtain⟨j,f,h1,h2,h3,h4⟩:=(h.ks k).1 hk;have:j=i:=by rw[h4]at e;have e:(j:Int)=i:=e;omega
 subst this;exact⟨f,h1,h2,h3,h4⟩
theorem iQ.same{v:Qm}(h:iQ v){i:Nat}{x:Option Fl}{lv':LV}(hs:∀t,(∃f,v.fl i=some f∧f.sg≠[]∧¬ng v.lv i∧t=da f)↔∃f,x=some f∧f.sg≠[]∧¬ng lv' i∧t=da f)(k:Key):
  k∈v.ks↔(k∈v.ks∧k.2≠(i:Int))∨∃f,x=some f∧f.sg≠[]∧¬ng lv' i∧k=(da f,(i:Int)):=by
 constructor
 ·intro hk;by_cases e:k.2=(i:Int)
  ·right;obtain⟨f,h1,h2,h3,h4⟩:=h.key hk e;obtain⟨g,g1,g2,g3,g4⟩:=(hs (da f)).1 ⟨f,h1,h2,h3,rfl⟩;exact⟨g,g1,g2,g3,by rw[h4,g4]⟩
  ·exact .inl ⟨hk,e⟩
 ·rintro(hk|⟨f,h1,h2,h3,h4⟩)
  ·exact hk.1
  ·obtain⟨g,g1,g2,g3,g4⟩:=(hs (da f)).2 ⟨f,h1,h2,h3,rfl⟩;rw[h.ks];exact⟨i,g,g1,g2,g3,by rw[h4,g4]⟩
theorem iQ.accept{v:Qm}(h:iQ v){i:Nat}(hi:i<8){s:Sg}(hk:sK s=i)(hs:oX s)(ao:Int)(hn:v.n<512):iQ (kl (eE v i ao) i s):=by
 rw[add_eq];have hw:=NK h i ao;have hsg:=z8 v i ao;refine h.dj hi _ _ _ _ (Me h.lv) (λj e=>?_) (λ_=>⟨_,rfl⟩) (λf hf=>?_) (h.same λt=>?_) h.wI ?_ (by omega)
 ·rw[BZ hi];exact⟨λhh=>hh.elim id λhh=>absurd hh.1 e,.inl⟩
 ·cases hf;refine⟨hw.cr,hw.nx,hw.si,λx hx=>?_⟩;rw[eC,jY]at hx;rcases hx with hx|rfl
  ·exact hw.sg x hx
  ·exact⟨hk,hs⟩
 ·constructor
  ·rintro⟨f,h1,h2,h3,h4⟩;have hp:eM v i=3:=va.2 ⟨h3,f,h1,h2⟩;have hwf:fF v i ao=f:=by unfold fF;rw[h1];simp[hp]
   refine⟨{f with sg:=f.sg++[s]},by rw[hwf],by simp,λhh=>?_,by rw[EI h2];exact h4⟩;rcases(BZ hi).1 hh with hh|hh
   ·exact h3 hh
   ·rw[hp]at hh;cases hh.2
  ·rintro⟨f,h1,h2,h3,h4⟩;have h3:¬(ng v.lv i∨(i=i∧eM v i=0)):=λhh=>h3 ((BZ hi).2 hh);have h5:eM v i≠0:=λe=>h3 (.inr ⟨rfl,e⟩);have h6:¬ng v.lv i:=λe=>h3 (.inl e);have h7:∃g,v.fl i=some g∧g.sg≠[]:=Cd λhh=>h5 (y5.2 ⟨h6,λg hg=>Cd λh8=>hh ⟨g,hg,h8⟩⟩);obtain⟨g,hg,hg2⟩:=h7;have hwf:fF v i ao=g:=by unfold fF;rw[hg];simp[h5]
   rw[hwf]at h1;cases h1;exact⟨g,hg,hg2,h6,by rw[h4,EI hg2]⟩
 ·have:vG (some {fF v i ao with sg:=(fF v i ao).sg++[s]})=vG (v.fl i)+1:=by
   show(((fF v i ao).sg++[s]).length:Int)=_;rw[hsg];cases v.fl i with
   |none=>rfl
   |some f=>simp[vG]
  rw[this];omega
theorem DF{v:Qm}(h:iQ v){s:Sg}{ao:Int}(hs:U (P5 s)∧U (ur s))(hl:1≤k_ s∧k_ s≤65536)(hn:U ao):oX (drawn v s ao):=by
 have hH:U (cH v.c):=by have:=h.cf.h;unfold U;omega
 exact⟨hs.1,hl,by show U (if _ then _ else _);split;exact ol hn hH;exact hs.2⟩
theorem iQ.enq{v:Qm}(h:iQ v){s:Sg}{ao:Int}(hs:U (P5 s)∧U (ur s))(hn:U ao):iQ (fo v s ao).2:=by
 unfold fo;split
 ·exact h
 ·split
  ·exact h
  ·rename_i h1 h2;have h1:0≤sK s∧sK s≤7:=wh.1 h1;have h2:1≤k_ s∧k_ s≤65536:=wh.1 h2;split
   ·rename_i h3;have hc:=h.collect ao;refine hc.accept (by omega) (by show sK s=_;omega) (DF h hs h2 hn) ao ?_;unfold h_ at h3;split at h3
    ·cases h3
    ·rename_i h4;have:=hc.cf.l;omega
   ·exact h.collect ao
def io(v:Qm)(ao:Int):List Key:=v.ks.takeWhile λk=>decide (k.1≤ao)
abbrev oN(v:Qm)(ao:Int):Qm:={v with ks:=v.ks.dropWhile (λk=>decide (k.1≤ao)),lv:=(v.lv.1,v.lv.2++(io v ao).map Prod.snd)}
def dJ(size aQ:Int):Int:=if size<1∨aQ=18446744073709551615 then 0 else if 1000000000<pW size 1000000000 aQ then 1000000000 else pW size 1000000000 aQ
def fR(a b:Int):Int:=if(if a=0 then 18446744073709551615 else a)>(if b=0 then 18446744073709551615 else b)then(if b=0 then 18446744073709551615 else b)else(if a=0 then 18446744073709551615 else a)
def gM(rates:List Int)(i:Nat):Int:=match rates[i]? with
 |some r=>r
 |none=>18446744073709551615
abbrev dP(v:Qm)(i:Nat)(f:Fl)(s:Sg)(ao aQ:Int):Qm:=
 {v with fl:=jT v.fl i (some {f with cr:=f.cr-k_ s,nx:=bA ao (dJ (k_ s) (fR aQ (cR v.c))),sg:=f.sg.tail}),n:=v.n-1}
def lA(ao:Int)(rates:List Int):Nat→Qm→Option Sg×Qm
 |0,v=>(none,v)
 |k+1,v=>match v.lv.1++v.lv.2,v.fl (bM v.lv).1.toNat with
  |[],_=>(none,v)
  |_::_,none=>(none,v)
  |_::_,some f=>
   if f.cr≤0 then lA ao rates k {v with fl:=jT v.fl (bM v.lv).1.toNat (some {f with cr:=f.cr+cQ v.c}),lv:=(eO v.lv).2}
   else match f.sg with
    |[]=>if(bM v.lv).2.1=true∧v.lv.2≠[]then lA ao rates k {v with lv:=(eO v.lv).2}
     else lA ao rates k {v with lv:=(cd v.lv).2,fl:=jT v.fl (bM v.lv).1.toNat (some {f with si:=ao})}
    |s::_=>if da f>ao then lA ao rates k {v with lv:=(cd v.lv).2,ks:=ma v.ks (da f,(bM v.lv).1)}
     else(some s,dP v (bM v.lv).1.toNat f s ao (gM rates (bM v.lv).1.toNat))
def Vx(x:Option Fl):Nat:=match x with
 |none=>0
 |some f=>(1-f.cr).toNat
def mu(v:Qm):Nat:=((v.lv.1++v.lv.2).map λx=>Vx (v.fl x.toNat)+1).sum+v.lv.1.length
def jw(v:Qm)(ao:Int)(rates:List Int):Option Sg×Qm:=lA ao rates (mu (oN v ao)+1) (oN v ao)
def cw(v:Qm)(i:Int):List Sg×Qm:=
 if ¬(0≤i∧i≤7)then([],v)else match v.fl i.toNat with
  |none=>([],v)
  |some f=>(f.sg,{v with fl:=jT v.fl i.toNat none,lv:=dm v.lv i,ks:=if eM v i.toNat=3 then v.ks.erase (da f,i)else v.ks,n:=v.n-f.sg.length})
def qg(v:Qm)(c:Cf):Int×Qm:=if may c then(0,{v with c:=c})else(13,v)
abbrev B8(c:Cf):Qm:=⟨c,λ_=>none,([],[]),[],0⟩
theorem iQ.new{c:Cf}(h:Af c):iQ (B8 c) where
 cf:=h
 lv:=⟨by simp[B8],by simp[B8]⟩
 th i hi:=by simp[B8,ng]at hi
 fl i f hf:=by cases hf
 ks k:=by
  constructor
  ·intro hk;cases hk
  ·rintro⟨i,f,h1,_⟩;cases h1
 wI:=List.Pairwise.nil
 n:=rfl
 le:=by show(0:Int)≤512;omega
theorem iQ.set{v:Qm}(h:iQ v){c:Cf}(hc:0≤cH c∧U (cR c)):iQ (qg v c).2:=by
 unfold qg;split
 ·rename_i hm;have h2:=yJ hm hc.1 hc.2;exact{h with cf:=h2}
 ·exact h
theorem JM{ks:List Key}{ao:Int}:∀{k:Key},k∈ks.takeWhile (λk=>decide (k.1≤ao))→k∈ks∧k.1≤ao:=by
 intro k hk;exact⟨List.takeWhile_subset _ hk,by
  induction ks with
  |nil=>simp at hk
  |cons x l ih=>
   rw[zr]at hk;split at hk
   ·rename_i hx;rw[dO]at hk;rcases hk with rfl|hk
    ·simpa using hx
    ·exact ih hk
   ·simp at hk⟩
theorem key_inj{v:Qm}(h:iQ v){a b:Key}(ha:a∈v.ks)(hb:b∈v.ks)(e:a.2=b.2):a=b:=by
 obtain⟨i,f,h1,_,_,h4⟩:=(h.ks a).1 ha;obtain⟨j,g,g1,_,_,g4⟩:=(h.ks b).1 hb;rw[h4,g4]at e;have e:(i:Int)=j:=e;have e:i=j:=by omega
 subst e;rw[h1]at g1;cases g1;rw[h4,g4]
theorem Jj{ks:List Key}(hs:ks.Nodup)(hi:∀a∈ks,∀b∈ks,a.2=b.2→a=b):(ks.map Prod.snd).Nodup:=by
 induction ks with
 |nil=>exact List.nodup_nil
 |cons x l ih=>
  rw[kU]at hs;rw[kq,kU];refine⟨λhx=>?_,ih hs.2 λa ha b hb=>hi a (by simp[ha]) b (by simp[hb])⟩;obtain⟨y,hy,hxy⟩:=rP.1 hx;have:=hi y (by simp[hy]) x (by simp) hxy;exact hs.1 (this▸hy)
theorem iQ.keys{v:Qm}(h:iQ v):(v.ks.map Prod.snd).Nodup∧∀x∈v.ks.map Prod.snd,(0≤x∧x<8)∧x∉v.lv.1++v.lv.2:=by
 refine⟨Jj h.wI.nodup λa ha b hb=>key_inj h ha hb,λx hx=>?_⟩;obtain⟨k,hk,rfl⟩:=rP.1 hx;obtain⟨i,f,h1,_,h3,h4⟩:=(h.ks k).1 hk;rw[h4];have:=(h.fl i f h1).1;exact⟨by show 0≤(i:Int)∧(i:Int)<8;omega,h3⟩
theorem iQ.due{v:Qm}(h:iQ v)(ao:Int):iQ (oN v ao):=by
 have hk:=h.keys;have hsplit:v.ks=io v ao++v.ks.dropWhile (λk=>decide (k.1≤ao)):=zl.symm;have hkm:=hk.1;rw[hsplit,rO,jE]at hkm;have hin:∀i:Nat,ng (oN v ao).lv i↔ng v.lv i∨(i:Int)∈(io v ao).map Prod.snd:=λi=>by
  show(i:Int)∈v.lv.1++(v.lv.2++_)↔_;unfold ng;rw[eC,eC,eC,or_assoc]
 refine⟨h.cf,?_,λi hi=>?_,h.fl,λk=>?_,?_,h.n,h.le⟩
 ·obtain⟨hd,hr⟩:=h.lv;constructor
  ·show(v.lv.1++(v.lv.2++(io v ao).map Prod.snd)).Nodup;rw[←kR,jE];refine⟨hd,hkm.1,λa ha b hb e=>?_⟩;have:=(hk.2 b (by rw[hsplit,rO,eC];exact .inl hb)).2;exact this (e▸ha)
  ·intro x hx;have hx:x∈v.lv.1++(v.lv.2++(io v ao).map Prod.snd):=hx;rw[←kR,eC]at hx;rcases hx with hx|hx
   ·exact hr x hx
   ·exact(hk.2 x (by rw[hsplit,rO,eC];exact .inl hx)).1
 ·rcases(hin i).1 hi with hi|hi
  ·exact h.th i hi
  ·obtain⟨k,hk2,he⟩:=rP.1 hi;obtain⟨f,hf,_⟩:=h.key (JM hk2).1 he;exact⟨f,hf⟩
 ·show k∈v.ks.dropWhile _↔∃(i:Nat) (f:Fl),v.fl i=some f∧_;constructor
  ·intro hkd;have hkk:k∈v.ks:=by rw[hsplit,eC];exact .inr hkd
   obtain⟨i,f,h1,h2,h3,h4⟩:=(h.ks k).1 hkk;refine⟨i,f,h1,h2,λhh=>?_,h4⟩;rcases(hin i).1 hh with hh|hh
   ·exact h3 hh
   ·exact hkm.2.2 _ hh _ (rP.2 ⟨k,hkd,by rw[h4]⟩) rfl
  ·rintro⟨i,f,h1,h2,h3,h4⟩;have hkk:k∈v.ks:=(h.ks k).2 ⟨i,f,h1,h2,λhh=>h3 ((hin i).2 (.inl hh)),h4⟩;rw[hsplit,eC]at hkk;rcases hkk with hkk|hkk
   ·exact absurd ((hin i).2 (.inr (rP.2 ⟨k,hkk,by rw[h4]⟩))) h3
   ·exact hkk
 ·have:=h.wI;rw[hsplit]at this;exact(zb.1 this).2.1
theorem xD{v:LV}(hv:vH v)(hh:(bM v).2.2=true)(j:Nat):ng (eO v).2 j↔ng v j:=by
 unfold eO;rw[aC hh];unfold ng dm;simp only[eC,tv,jY,gK];have hm:=kO hh;rw[eC]at hm;constructor
 ·rintro(h|h|h)
  ·exact .inl h.1
  ·exact .inr h.1
  ·rw[h];exact hm
 ·intro h;by_cases e:(j:Int)=(bM v).1
  ·exact .inr (.inr e)
  ·rcases h with h|h
   ·exact .inl ⟨h,e⟩
   ·exact .inr (.inl ⟨h,e⟩)
theorem HB{v:LV}(hh:(bM v).2.2=true)(j:Nat):ng (cd v).2 j↔ng v j∧(j:Int)≠(bM v).1:=by
 unfold cd;rw[aC hh];unfold ng dm;simp only[eC,tv,gK];exact⟨λh=>h.elim (λh=>⟨.inl h.1,h.2⟩) λh=>⟨.inr h.1,h.2⟩,λh=>h.1.elim (λx=>.inl ⟨x,h.2⟩) λx=>.inr ⟨x,h.2⟩⟩
section
variable {v:Qm} {i:Nat} {f:Fl}
structure xw(v:Qm)(i:Nat)(f:Fl):Prop where
 ok:iQ v
 hd:(bM v.lv).1=(i:Int)
 is:(bM v.lv).2.2=true
 fl:v.fl i=some f
theorem xw.lt(h:xw v i f):i<8:=(h.ok.fl i f h.fl).1
theorem xw.inl(h:xw v i f):ng v.lv i:=by
 have:=kO h.is;rw[h.hd]at this;exact this
theorem xw.no{k:Key}(h:xw v i f)(hk:k∈v.ks):k.2≠(i:Int):=λe=>by
 obtain⟨_,_,_,h3,_⟩:=h.ok.key hk e;exact h3 h.inl
theorem xw.Fy(h:xw v i f)(hc:f.cr≤0):iQ {v with fl:=jT v.fl i (some {f with cr:=f.cr+cQ v.c}),lv:=(eO v.lv).2}:=by
 have hf:=(h.ok.fl i f h.fl).2;have hq:=h.ok.cf.q;have h1:=hf.cr;refine h.ok.dj h.lt _ _ _ v.n h.ok.lv.back (λj _=>xD h.ok.lv h.is j) (λ_=>⟨_,rfl⟩) (λg hg=>?_) (h.ok.same λt=>?_) h.ok.wI (by rw[h.fl];simp[vG]) h.ok.le
 ·cases hg;exact⟨by show-65536<f.cr+cQ v.c∧f.cr+cQ v.c≤65536;omega,hf.nx,hf.si,hf.sg⟩
 ·have a1:¬∃g,v.fl i=some g∧g.sg≠[]∧¬ng v.lv i∧t=da g:=λ⟨_,_,_,h3,_⟩=>h3 h.inl;exact⟨λhh=>absurd hh a1,λ⟨_,_,_,h3,_⟩=>absurd ((xD h.ok.lv h.is i).2 h.inl) h3⟩
theorem xw.back(h:xw v i f):iQ {v with lv:=(eO v.lv).2}:=by
 have:=h.ok.dj h.lt (v.fl i) (eO v.lv).2 v.ks v.n h.ok.lv.back (λj _=>xD h.ok.lv h.is j) (λ_=>⟨_,h.fl⟩) (λg hg=>(h.ok.fl i g hg).2) (h.ok.same λt=>?_) h.ok.wI (by omega) h.ok.le
 ·have e:jT v.fl i (v.fl i)=v.fl:=by
   funext j
   by_cases e:j=i
   ·rw[e,cg]
   ·rw[dX _ _ e]
  rw[e]at this;exact this
 ·have a1:¬∃g,v.fl i=some g∧g.sg≠[]∧¬ng v.lv i∧t=da g:=λ⟨_,_,_,h3,_⟩=>h3 h.inl;exact⟨λhh=>absurd hh a1,λ⟨_,_,_,h3,_⟩=>absurd ((xD h.ok.lv h.is i).2 h.inl) h3⟩
theorem xw.B_(h:xw v i f)(hs:f.sg=[]){ao:Int}(hn:U ao):iQ {v with lv:=(cd v.lv).2,fl:=jT v.fl i (some {f with si:=ao})}:=by
 have hf:=(h.ok.fl i f h.fl).2;have hd:=HB (v:=v.lv) h.is;refine h.ok.dj h.lt (some {f with si:=ao}) (cd v.lv).2 v.ks v.n h.ok.lv.drop (λj e=>?_) (λ_=>⟨_,rfl⟩) (λg hg=>?_) (h.ok.same λt=>?_) h.ok.wI (by rw[h.fl];simp[vG]) h.ok.le
 ·rw[hd j,h.hd];exact⟨λx=>x.1,λx=>⟨x,λe2=>e (by omega)⟩⟩
 ·cases hg;exact⟨hf.cr,hf.nx,hn,hf.sg⟩
 ·have a1:¬∃g,v.fl i=some g∧g.sg≠[]∧¬ng v.lv i∧t=da g:=λ⟨_,_,_,h3,_⟩=>h3 h.inl;exact⟨λhh=>absurd hh a1,λ⟨g,hg,h3,_⟩=>by cases hg;exact absurd hs h3⟩
theorem Mu(ks:List Key)(k x:Key):x∈ma ks k↔x=k∨x∈ks:=by
 unfold ma;have e:=zl (p:=λm=>kX m k) (l:=ks);have e2:x∈ks↔x∈ks.takeWhile (λm=>kX m k)∨x∈ks.dropWhile (λm=>kX m k):=by
  rw[←eC,e]
 rw[e2,eC,dO];exact⟨λh=>h.elim (λh=>.inr (.inl h)) λh=>h.elim .inl λh=>.inr (.inr h),λh=>h.elim (λh=>.inr (.inl h)) λh=>h.elim .inl λh=>.inr (.inr h)⟩
theorem Qc{ks:List Key}(hs:z_ ks){k:Key}(hk:k∉ks):z_ (ma ks k):=by
 obtain⟨a,b,hab,h1,h2⟩:∃a b,ks=a++b∧(∀m∈a,kX m k=true)∧∀m∈b,kX k m=true:=by
  refine⟨ks.takeWhile (λm=>kX m k),ks.dropWhile (λm=>kX m k),zl.symm,?_,?_⟩
  ·intro m hm;clear hs hk
   induction ks with
   |nil=>simp at hm
   |cons x l ih=>
    rw[zr]at hm;split at hm
    ·rw[dO]at hm;rcases hm with rfl|hm
     ·assumption
     ·exact ih hm
    ·simp at hm
  ·intro m hm;have e:=zl (p:=λm=>kX m k) (l:=ks);cases hd:ks.dropWhile (λm=>kX m k)with
   |nil=>rw[hd]at hm;cases hm
   |cons y l=>
    have hy:kX y k=false:=by
     have:=List.head?_dropWhile_not (λm=>kX m k) ks;rw[hd]at this;simpa using this
    have hyk:y≠k:=λe2=>hk (by rw[←e,eC,hd,←e2];simp);have hky:kX k y=true:=HG hy hyk;rw[hd]at hm;rw[dO]at hm;rcases hm with rfl|hm
    ·exact hky
    ·have hs2:=hs;rw[←e,hd]at hs2;have:=(tq.1 (zb.1 hs2).2.1).1 m hm;exact v5 hky this
 rw[hab,Cb h1 h2];rw[hab]at hs;exact hs.put h1 h2
theorem xw.wait(h:xw v i f)(hs:f.sg≠[]):iQ {v with lv:=(cd v.lv).2,ks:=ma v.ks (da f,(i:Int))}∧(da f,(i:Int))∉v.ks∧v.ks.length<8:=by
 have hd:=HB (v:=v.lv) h.is;have hno:(da f,(i:Int))∉v.ks:=λhk=>h.no hk rfl;refine⟨?_,hno,?_⟩
 ·have hni:¬ng (cd v.lv).2 i:=λe=>((hd i).1 e).2 h.hd.symm;have:=h.ok.dj h.lt (v.fl i) (cd v.lv).2 (ma v.ks (da f,(i:Int))) v.n h.ok.lv.drop (λj e=>?_) (λe=>absurd e hni) (λg hg=>(h.ok.fl i g hg).2) (λk=>?_) (Qc h.ok.wI hno) (by omega) h.ok.le
  ·have e:jT v.fl i (v.fl i)=v.fl:=by
    funext j
    by_cases e:j=i
    ·rw[e,cg]
    ·rw[dX _ _ e]
   rw[e]at this;exact this
  ·rw[hd j,h.hd];exact⟨λx=>x.1,λx=>⟨x,λe2=>e (by omega)⟩⟩
  ·rw[Mu];constructor
   ·rintro(rfl|hk)
    ·exact .inr ⟨f,h.fl,hs,hni,rfl⟩
    ·exact .inl ⟨hk,h.no hk⟩
   ·rintro(hk|⟨g,hg,_,_,e⟩)
    ·exact .inr hk.1
    ·rw[h.fl]at hg;cases hg;exact .inl e
 ·have hk:=h.ok.keys;have h9:((i:Int)::v.ks.map Prod.snd).Nodup:=kU.2 ⟨λhx=>(hk.2 _ hx).2 h.inl,hk.1⟩;have:=pn 8 _ h9 λx hx=>by
   rcases dO.1 hx with rfl|hx
   ·have:=h.lt;exact⟨by omega,by show(i:Int)<((8:Nat):Int);omega⟩
   ·exact(hk.2 x hx).1
  simp at this;omega
theorem xw.VV(h:xw v i f){s:Sg}{l:List Sg}(hs:f.sg=s::l)(hc:f.cr>0){ao aQ:Int}(hn:U ao)(hd:U (dJ (k_ s) (fR aQ (cR v.c)))):iQ (dP v i f s ao aQ):=by
 have hf:=(h.ok.fl i f h.fl).2;have hsg:=hf.sg s (by rw[hs];simp);have h1:=hf.cr;have h2:=hsg.2.ln;refine h.ok.dj h.lt _ v.lv v.ks (v.n-1) h.ok.lv (λ_ _=>lR) (λ_=>⟨_,rfl⟩) (λg hg=>?_) (h.ok.same λt=>?_) h.ok.wI (by rw[h.fl,hs];simp[vG,hs];omega) (by have:=h.ok.le;omega)
 ·cases hg;refine⟨by show-65536<f.cr-k_ s∧f.cr-k_ s≤65536;omega,ol hn hd,hf.si,λx hx=>hf.sg x (by rw[hs];rw[hs]at hx;exact nS _ hx)⟩
 ·have a1:¬∃g,v.fl i=some g∧g.sg≠[]∧¬ng v.lv i∧t=da g:=λ⟨_,_,_,h3,_⟩=>h3 h.inl;exact⟨λhh=>absurd hh a1,λ⟨_,_,_,h3,_⟩=>absurd h.inl h3⟩
end
theorem iQ.close{v:Qm}(h:iQ v)(i:Int):iQ (cw v i).2:=by
 unfold cw;split
 ·exact h
 ·rename_i hi;have hi:0≤i∧i≤7:=wh.1 hi;have hi8:i.toNat<8:=by omega
  have hin:((i.toNat:Nat):Int)=i:=by omega
  split
  ·exact h
  ·rename_i f hf;have hout:∀j:Nat,ng (dm v.lv i) j↔ng v.lv j∧(j:Int)≠i:=λj=>by
    unfold ng dm;simp only[eC,tv,gK];exact⟨λh=>h.elim (λh=>⟨.inl h.1,h.2⟩) λh=>⟨.inr h.1,h.2⟩,λh=>h.1.elim (λx=>.inl ⟨x,h.2⟩) λx=>.inr ⟨x,h.2⟩⟩
   have hlen:=h.len hf;refine h.dj hi8 none (dm v.lv i) _ _ (h.lv.out i) (λj e=>?_) (λe=>?_) (λg hg=>by cases hg) (λk=>?_) ?_ (by rw[hf];simp[vG]) (by have:=h.le;omega)
   ·rw[hout j];exact⟨λx=>x.1,λx=>⟨x,λe2=>e (by omega)⟩⟩
   ·exact absurd hin (((hout _).1 e).2)
   ·rw[hin];by_cases hp:eM v i.toNat=3
    ·rw[aC hp];obtain⟨h3,g,hg,hg2⟩:=va.1 hp;rw[hf]at hg;cases hg;rw[h.wI.nodup.mem_erase_iff];constructor
     ·rintro⟨h4,h5⟩;refine .inl ⟨h5,λe=>?_⟩;obtain⟨g,hg,_,_,e2⟩:=h.key (i:=i.toNat) h5 (by rw[e,hin]);rw[hf]at hg;cases hg;exact h4 (by rw[e2,hin])
     ·rintro(⟨h4,h5⟩|⟨g,hg,_⟩)
      ·exact⟨λe=>h5 (by rw[e]),h4⟩
      ·cases hg
    ·rw[ay hp];constructor
     ·intro hk;refine .inl ⟨hk,λe=>?_⟩;obtain⟨g,hg,h2,h3,_⟩:=h.key (i:=i.toNat) hk (by rw[e,hin]);exact hp (va.2 ⟨h3,g,hg,h2⟩)
     ·rintro(hk|⟨g,hg,_⟩)
      ·exact hk.1
      ·cases hg
   ·split
    ·exact h.wI.sublist Gg
    ·exact h.wI
end lK

namespace lV
open bB bi ff _root_.Go.X.Tree iy kj lp fg lK
theorem vU(n r:Int)(hn:n<9223372036854775808)(hr:U r):bm (Al n r) aT (λx=>bh (x=dJ n r) aT):=
 br λw0 S R h=>by
  unfold dJ;refine ae (λc=>?_) λc=>?_
  ·have c:n<1∨r=18446744073709551615:=bV;rw[aC c];exact au.aE rfl h
  have c:¬(n<1∨r=18446744073709551615):=bV;rw[ay c,wu (n:=n) (by omega) (by omega)];refine af (t8 n 1000000000 r ⟨by omega,by omega⟩ (aX _) hr) h λx w h=>?_;obtain⟨hx,h⟩:=h.aB;rw[hx];exact au.aE rfl h.fV
theorem ud(n r:Int)(hn:n<9223372036854775808)(hr:U r):bm (Ku n r) aT (λx=>bh (x=dJ n r) aT):=
 br λw0 S R h=>by
  unfold dJ;refine ae (λc=>?_) λc=>?_
  ·have c:n<1∨r=18446744073709551615:=bV;rw[aC c];exact au.aE rfl h
  have c:¬(n<1∨r=18446744073709551615):=bV;rw[ay c,wu (n:=n) (by omega) (by omega)];refine af (nl n 1000000000 r ⟨by omega,by omega⟩ (aX _) hr) h λx w h=>?_;obtain⟨hx,h⟩:=h.aB;rw[hx];exact au.aE rfl h.fV
theorem om{n r:Int}(hn:n<9223372036854775808)(hr:U r):U (dJ n r):=by
 unfold dJ;split
 ·exact aX 0
 ·rename_i c;have h:=xX (a:=n) (b:=1000000000) (c:=r) ⟨by omega,by omega⟩ (aX _) hr;split
  ·exact aX _
  ·exact h
theorem BC{a b:Int}(ha:U a)(hb:U b):U (fR a b):=by unfold fR U at*;(repeat' split)<;>omega
theorem LO(a b:Int)(ha:U a)(hb:U b):bm (R4 a b) aT (λx=>bh (x=fR a b) aT):=
 br λw0 S R h=>by
  have e1:IntKind.i64.wrap ((0:Int)+1)=1:=rfl;have e2:IntKind.i64.wrap ((1:Int)+1)=2:=rfl;obtain⟨a',ha'⟩:∃a',a'=if a=0 then 18446744073709551615 else a:=⟨_,rfl⟩
  refine cS (λ_:Int×Int=>aT) (λy:Int×Int=>y=(18446744073709551615,0)∨y=(a',1)∨y=(fR a b,2)) (λy:Int×Int=>(2-y.2).toNat) h (.inl rfl) ?_;rintro(y:Int×Int) w hy h;rcases hy with rfl|rfl|rfl
  ·refine ae (λ_=>?_) λc=>(by cases c);refine⟨by decide,(a:Int),rfl,?_⟩;dsimp only;rw[e1];refine ae (λc=>?_) λc=>?_
   ·have c:a=0:=bV;rw[aC c]at ha';exact⟨⟨.inr (.inl (by rw[ha'])),h⟩,by show(2-(1:Int)).toNat<(2-(0:Int)).toNat;omega⟩
   ·have c:¬a=0:=bV;rw[ay c]at ha';refine⟨⟨.inr (.inl ?_),h⟩,by show(2-(1:Int)).toNat<(2-(0:Int)).toNat;omega⟩;unfold U at ha;rw[ha'];refine wC ?_ rfl;show(if a<_ then a else _)=a;split<;>omega
  ·refine ae (λ_=>?_) λc=>(by cases c);refine⟨⟨by show(0:Int)≤1;decide,by show(1:Int)<2;decide⟩,(b:Int),rfl,?_⟩;dsimp only;rw[e2];unfold U at ha hb;refine ae (λc=>?_) λc=>?_
   ·have c:b=0:=bV;refine⟨⟨.inr (.inr ?_),h⟩,by show(2-(2:Int)).toNat<(2-(1:Int)).toNat;omega⟩;refine wC ?_ rfl;show a'=fR a b;unfold fR;rw[←ha',aC c];have:a'≤18446744073709551615:=(by rw[ha'];split<;>omega);split<;>omega
   ·have c:¬b=0:=bV;refine⟨⟨.inr (.inr ?_),h⟩,by show(2-(2:Int)).toNat<(2-(1:Int)).toNat;omega⟩;refine wC ?_ rfl;show(if b<a' then b else a')=fR a b;unfold fR;rw[←ha',ay c]
  ·refine ae (λc=>(by cases c)) λ_=>?_;exact au.aE rfl h
theorem Jw(a b:Int)(ha:U a)(hb:U b):bm (RW a b) aT (λx=>bh (x=fR a b) aT):=
 br λw0 S R h=>by
  unfold U at ha hb;refine ae (λc=>?_) λc=>?_
  ·have c:a=0:=bV;refine ae (λc2=>?_) λc2=>?_
   ·have c2:b=0:=gk;refine au.aE ?_ h;show(_:Int)=fR a b;unfold fR;rw[aC c,aC c2]
   ·have c2:¬b=0:=gk;refine au.aE ?_ h;show(if b<_ then b else _)=fR a b;unfold fR;rw[aC c,ay c2]
  ·have c:¬a=0:=bV;refine ae (λc2=>?_) λc2=>?_
   ·have c2:b=0:=gk;refine au.aE ?_ h;show(if _<a then _ else a)=fR a b;unfold fR;rw[ay c,aC c2]
   ·have c2:¬b=0:=gk;refine au.aE ?_ h;show(if b<a then b else a)=fR a b;unfold fR;rw[ay c,ay c2]
theorem iP(v lo hi:Int):bm (yg v lo hi) aT (λr=>bh (r=decide (lo≤v∧v≤hi)) aT):=
 br λw0 S R h=>by
  refine au.aE ?_ h;rw[jk];simp
theorem nh(c:Cf):bm (Wy c) aT (λr=>bh (r=may c) aT):=
 br λw0 S R h=>by
  unfold may;refine aA h λn1 w h=>aj h rfl (af (iP _ _ _) h λr w h=>?_);obtain⟨hr,h⟩:=h.aB;rw[hr];refine ae (λc1=>?_) λc1=>?_
  case _=>
   refine aj h rfl (af (iP _ _ _) h λr w h=>?_);obtain⟨hr,h⟩:=h.aB;rw[hr];refine ae (λc2=>?_) λc2=>?_
   case _=>
    refine aj h rfl (af (iP _ _ _) h λr w h=>?_);obtain⟨hr,h⟩:=h.aB;rw[hr];refine ae (λc3=>?_) λc3=>?_
    case _=>
     refine aj h rfl (af (iP _ _ _) h λr w h=>?_);obtain⟨hr,h⟩:=h.aB;rw[hr];refine ae (λc4=>?_) λc4=>?_
     case _=>
      refine aj h rfl (ae (λc5=>?_) λc5=>?_)
      case _=>
       refine aj h rfl (af (iP _ _ _) h λr w h=>?_);obtain⟨hr,h⟩:=h.aB;rw[hr];refine ae (λc6=>?_) λc6=>?_
       case _=>
        refine aj h rfl (af (iP _ _ _) h λr w h=>?_);obtain⟨hr,h⟩:=h.aB;rw[hr];refine au.aE ?_ h.fV;rw[c1,c2,c3,c4,c5,c6];rfl
       case _=>exact au.aE (by rw[c1,c2,c3,c4,c5,c6];rfl) h.fV
      case _=>exact au.aE (by rw[c1,c2,c3,c4,c5];rfl) h.fV
     case _=>exact au.aE (by rw[c1,c2,c3,c4];rfl) h.fV
    case _=>exact au.aE (by rw[c1,c2,c3];rfl) h.fV
   case _=>exact au.aE (by rw[c1,c2];rfl) h.fV
  case _=>exact au.aE (by rw[c1];rfl) h.fV
theorem Ya{w0 w:World}{S0 R0:Nat→Prop}{F:SP}(h:au w0 S0 R0 w F)(s:Sl)(K:Ks)(hl:s.len=0)(hc:s.cap=0):au w0 S0 R0 w (aP s K []^F):=by
 have h:=h.le ((aF F).trans (aV _ _));obtain⟨S,R,_,_,h2⟩:=h.part;exact h2 w (aP s K []) (λ_=>False) (λ_=>False) (jO.refl _ _) ⟨⟨.inl ⟨hl,hc,rfl⟩,hl⟩,λk=>⟨λh=>h.elim,λ⟨q,_,_,hq⟩=>absurd hc hq⟩,λ_ h=>h⟩ (λ_ h=>h.elim) (λ_ h=>h.elim)
theorem AH(s:Sl)(xs:List Sg)(hl:xs.length≤4294967296):bm (WC s) (aT^ba s KS xs) (λr=>aP r KS xs):=
 br λw0 S R h=>by
  have h:au w0 S R w0 (ba s KS xs^aT):=h.aG;have hs:=(h.rd (s:=s)).2;have hn:=(h.rd (s:=s)).1.2.1;refine ae (λc=>?_) λ_=>?_
  ·have hp:s.p=none:=by
    simp only[Sl.isNil,fG,MF]at c;exact c.1
   have hx:xs=[]:=jD (by rw[←hs];exact hn hp);rw[hx];exact(h.nil KS).bk
  ·refine aA h λn1 w h=>?_;have h:=Ya h ⟨some ⟨n1,0⟩,0,0⟩ KS rfl rfl;refine dE (s:=⟨some ⟨n1,0⟩,0,0⟩) (x:=s) h rfl (by simpa using hl) λs2 w _ h=>?_;exact h.bk
def dV(f:Nat→SP):Nat→SP
 |0=>aT
 |n+1=>f n^dV f n
def td(f:Nat→SP)(i:Nat):Nat→SP:=λj=>if j=i then aT else f j
theorem gQ{f g:Nat→SP}:∀n,(∀j,j<n→f j=g j)→dV f n=dV g n
 |0,_=>rfl
 |n+1,h=>by rw[dV,dV,h n (by omega),gQ n λj hj=>h j (by omega)]
theorem Li(p:SP):Le (aT^p) p:=by
 rintro w S R ⟨S1,R1,S2,R2,h1,h2,hS,hR,_⟩;have e1:S=S2:=funext λk=>propext ((hS k).trans ⟨λh=>h.elim (λh=>absurd h (h1.1 k)) id,.inr⟩);have e2:R=R2:=funext λk=>propext ((hR k).trans ⟨λh=>h.elim (λh=>absurd h (h1.2 k)) id,.inr⟩);rw[e1,e2];exact h2
theorem oq(f:Nat→SP):∀{n i:Nat},i<n→Le (dV f n) (f i^dV (td f i) n)
 |n+1,i,h=>by
  by_cases e:i=n
  ·subst e;have e1:dV (td f i) (i+1)=aT^dV f i:=by
    rw[dV,gQ (f:=td f i) (g:=f) i λj hj=>by simp[td,show j≠i by omega]];simp[td]
   rw[e1];exact aZ Le.rfl ((aF _).trans (aV _ _))
  ·have:=oq f (n:=n) (i:=i) (by omega);have e1:dV (td f i) (n+1)=f n^dV (td f i) n:=(by rw[dV];simp[td,lS e]);rw[e1];exact(aZ Le.rfl this).trans (fW _ _ _)
theorem ra(f:Nat→SP):∀{n i:Nat},i<n→Le (f i^dV (td f i) n) (dV f n)
 |n+1,i,h=>by
  by_cases e:i=n
  ·subst e;have e1:dV (td f i) (i+1)=aT^dV f i:=by
    rw[dV,gQ (f:=td f i) (g:=f) i λj hj=>by simp[td,show j≠i by omega]];simp[td]
   rw[e1];exact aZ Le.rfl (Li _)
  ·have:=ra f (n:=n) (i:=i) (by omega);have e1:dV (td f i) (n+1)=f n^dV (td f i) n:=(by rw[dV];simp[td,lS e]);rw[e1];exact(fW _ _ _).trans (aZ Le.rfl this)
abbrev qL(c:Cf)(p:Nat→Option Pt)(l w:Nat)(n:Int):List Lf:=[.int .i64 (cQ c),.int .i64 (cF c),.int .i64 (cL c),.int .i64 (cW c),.int .u64 (cH c),.int .u64 (cR c),.bool (cD c),.int .i64 (dM c),.int .i64 (eF c),.ptr (p 0),.ptr (p 1),.ptr (p 2),.ptr (p 3),.ptr (p 4),.ptr (p 5),.ptr (p 6),.ptr (p 7),.ptr (some ⟨l,0⟩),.ptr (some ⟨w,0⟩),.int .i64 n]
theorem rI(c:Cf)(p:Nat→Option Pt)(l w:Nat)(n:Int)(i:Nat)(hi:i<8):Ks.un [.ptr] (((qL c p l w n).drop (0+9+i*1)).take 1)=some (p i):=by
 have:i=0∨i=1∨i=2∨i=3∨i=4∨i=5∨i=6∨i=7:=by omega
 rcases this with rfl|rfl|rfl|rfl|rfl|rfl|rfl|rfl<;>rfl
def vI(p:Nat→Option Pt)(i:Nat)(x:Option Pt):Nat→Option Pt:=λj=>if j=i then x else p j
theorem rZ(p:Nat→Option Pt)(i:Nat)(x:Option Pt):vI p i x i=x:=by simp[vI]
theorem z4(p:Nat→Option Pt){i j:Nat}(x:Option Pt)(h:j≠i):vI p i x j=p j:=by simp[vI,h]
theorem Mw(c:Cf)(p:Nat→Option Pt)(l w:Nat)(n:Int)(i:Nat)(hi:i<8)(x:Option Pt):dj (qL c p l w n) (0+9+i*1) [.ptr x]=qL c (vI p i x) l w n:=by
 have:i=0∨i=1∨i=2∨i=3∨i=4∨i=5∨i=6∨i=7:=by omega
 rcases this with rfl|rfl|rfl|rfl|rfl|rfl|rfl|rfl<;>rfl
def jx(a:Nat)(f:Fl):SP:=ex λs:Sl=>ah a [.int .i64 f.cr,.int .u64 f.nx,.int .u64 f.si,.sl s]^aP s KS f.sg
instance(a:Nat)(f:Fl):qq (jx a f):=by unfold jx;infer_instance
def kN(p:Option Pt)(x:Option Fl):SP:=match x with
 |none=>bh (p=none) aT
 |some f=>ex λa:Nat=>bh (p=some ⟨a,0⟩) (jx a f)
instance(p:Option Pt)(x:Option Fl):qq (kN p x):=by unfold kN;split<;>infer_instance
theorem Kf(f:Nat→SP)(h:∀j,qq (f j)):∀n,qq (dV f n)
 |0=>by unfold dV;infer_instance
 |n+1=>by have:=Kf f h n;unfold dV;infer_instance
instance(f:Nat→SP)[h:∀j,qq (f j)](n:Nat):qq (dV f n):=Kf f h n
abbrev WJ(p:Nat→Option Pt)(fl:Nat→Option Fl):Nat→SP:=λj=>kN (p j) (fl j)
abbrev iG(p:Nat→Option Pt)(fl:Nat→Option Fl):SP:=dV (WJ p fl) 8
abbrev qR(p:Nat→Option Pt)(fl:Nat→Option Fl)(i:Nat):SP:=dV (td (WJ p fl) i) 8
def nX(b:Nat)(v:Qm):SP:=ex λx:(Nat→Option Pt)×Nat×Nat=>ah b (qL v.c x.1 x.2.1 x.2.2 v.n)^jp x.2.1 v.lv^tree 8 x.2.2 v.ks^iG x.1 v.fl
instance(b:Nat)(v:Qm):qq (nX b v):=by unfold nX;infer_instance
section
variable {w0 w:World} {S0 R0:Nat→Prop} {F G:SP}
theorem _root_.Go.X.au.jx(h:au w0 S0 R0 w F)(a:Nat){f:Fl}[tk:mR lV.jx a F f G]:∃s:Sl,au w0 S0 R0 w (ah a [.int .i64 f.cr,.int .u64 f.nx,.int .u64 f.si,.sl s]^aP s KS f.sg^G):=by
 obtain⟨s,h⟩:=(h.le tk.le).lX;exact⟨s,h.aG⟩
theorem _root_.Go.X.au.pX(h:au w0 S0 R0 w F)(a:Nat)(s:Sl)(f:Fl)[tk:Take (ah a [.int .i64 f.cr,.int .u64 f.nx,.int .u64 f.si,.sl s]^aP s KS f.sg) F G]:au w0 S0 R0 w (lV.jx a f^G):=
 au.s_ (f:=λs:Sl=>ah a [.int .i64 f.cr,.int .u64 f.nx,.int .u64 f.si,.sl s]^aP s KS f.sg) s (h.le tk.le)
theorem _root_.Go.X.au.FU(h:au w0 S0 R0 w F)(a:Nat)(s:Sl)(cr nx si:Int)(sg:List Sg)(f:Fl)(hf:f=⟨cr,nx,si,sg⟩)[tk:Take (ah a [.int .i64 cr,.int .u64 nx,.int .u64 si,.sl s]^aP s KS sg) F G]:au w0 S0 R0 w (lV.jx a f^G):=by
 rw[hf];exact h.pX a s ⟨cr,nx,si,sg⟩ (tk:=tk)
theorem _root_.Go.X.au.nX(h:au w0 S0 R0 w F)(b:Nat){v:Qm}[tk:mR lV.nX b F v G]:∃(p:Nat→Option Pt) (l t:Nat),au w0 S0 R0 w (ah b (qL v.c p l t v.n)^jp l v.lv^tree 8 t v.ks^iG p v.fl^G):=by
 obtain⟨s,h⟩:=(h.le tk.le).lX;exact⟨s.1,s.2.1,s.2.2,h.aG⟩
theorem _root_.Go.X.au.qv(h:au w0 S0 R0 w F)(b:Nat)(p:Nat→Option Pt)(l t:Nat)(v:Qm)[tk:Take (ah b (qL v.c p l t v.n)^jp l v.lv^tree 8 t v.ks^iG p v.fl) F G]:au w0 S0 R0 w (lV.nX b v^G):=
 au.s_ (f:=λx:(Nat→Option Pt)×Nat×Nat=>ah b (qL v.c x.1 x.2.1 x.2.2 v.n)^jp x.2.1 v.lv^tree 8 x.2.2 v.ks^iG x.1 v.fl) (p,l,t) (h.le tk.le)
theorem _root_.Go.X.au.dm(h:au w0 S0 R0 w F)(p:Nat→Option Pt)(fl:Nat→Option Fl){i:Nat}(hi:i<8){f:Fl}(hf:fl i=some f)[tk:Take (iG p fl) F G]:∃a,p i=some ⟨a,0⟩∧au w0 S0 R0 w (lV.jx a f^qR p fl i^G):=by
 have h:au w0 S0 R0 w ((kN (p i) (fl i)^qR p fl i)^G):=(h.le tk.le).le (aZ (oq _ hi) Le.rfl);have h:=h.le (cy _ _ _);rw[hf]at h;obtain⟨a,h⟩:=au.lX (f:=λa:Nat=>bh (p i=some ⟨a,0⟩) (lV.jx a f)) h;obtain⟨hp,h⟩:=h.aB;exact⟨a,hp,h⟩
theorem _root_.Go.X.au.D6(h:au w0 S0 R0 w F)(p:Nat→Option Pt)(fl:Nat→Option Fl){i:Nat}(hi:i<8)(hf:fl i=none)[tk:Take (iG p fl) F G]:p i=none∧au w0 S0 R0 w (qR p fl i^G):=by
 have h:au w0 S0 R0 w ((kN (p i) (fl i)^qR p fl i)^G):=(h.le tk.le).le (aZ (oq _ hi) Le.rfl);have h:=h.le (cy _ _ _);rw[hf]at h;obtain⟨hp,h⟩:=au.aB (p:=p i=none) (A:=aT) h;exact⟨hp,h.drop⟩
theorem Km(p q:Nat→Option Pt)(fl gl:Nat→Option Fl)(i:Nat)(hp:∀j,j≠i→q j=p j)(hf:∀j,j≠i→gl j=fl j):qR q gl i=qR p fl i:=gQ 8 λj _=>by
 unfold td;split
 ·rfl
 ·rename_i e;show kN _ _=kN _ _;rw[hp j e,hf j e]
theorem _root_.Go.X.au.sX(h:au w0 S0 R0 w F)(p:Nat→Option Pt)(fl:Nat→Option Fl){i:Nat}(hi:i<8)(q:Nat→Option Pt)(gl:Nat→Option Fl)(a:Nat)(f:Fl)(hp:∀j,j≠i→q j=p j)(hf:∀j,j≠i→gl j=fl j)(hq:q i=some ⟨a,0⟩)(hg:gl i=some f)[tk:Take (lV.jx a f^qR p fl i) F G]:au w0 S0 R0 w (iG q gl^G):=by
 have h:=(h.le tk.le).le (cy _ _ _);have h:au w0 S0 R0 w (kN (q i) (gl i)^qR p fl i^G):=by
  rw[hg];exact au.s_ (f:=λa:Nat=>bh (q i=some ⟨a,0⟩) (lV.jx a f)) a (au.iF hq h)
 rw[←Km p q fl gl i hp hf]at h;exact(h.le (cM _ _ _)).le (aZ (ra (WJ q gl) hi) Le.rfl)
theorem _root_.Go.X.au.inN(h:au w0 S0 R0 w F)(p:Nat→Option Pt)(fl:Nat→Option Fl){i:Nat}(hi:i<8)(q:Nat→Option Pt)(gl:Nat→Option Fl)(hp:∀j,j≠i→q j=p j)(hf:∀j,j≠i→gl j=fl j)(hq:q i=none)(hg:gl i=none)[tk:Take (qR p fl i) F G]:au w0 S0 R0 w (iG q gl^G):=by
 have h:=(h.le tk.le);have h:au w0 S0 R0 w (kN (q i) (gl i)^qR p fl i^G):=by
  rw[hg];exact au.iF (p:=q i=none) (A:=aT) hq (h.le ((aF _).trans (aV _ _)))
 rw[←Km p q fl gl i hp hf]at h;exact(h.le (cM _ _ _)).le (aZ (ra (WJ q gl) hi) Le.rfl)
theorem X4(h:au w0 S0 R0 w F)(p:Nat→Option Pt)(fl:Nat→Option Fl){i:Nat}(hi:i<8)[tk:Take (iG p fl) F G]:(p i).isNone=(fl i).isNone:=by
 cases hf:fl i with
 |none=>rw[(h.D6 p fl hi hf).1];rfl
 |some f=>obtain⟨a,ha,_⟩:=h.dm p fl hi hf;rw[ha];rfl
end
end lV

end Go.X
