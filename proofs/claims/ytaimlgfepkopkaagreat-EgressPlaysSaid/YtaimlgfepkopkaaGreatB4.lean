/- Contracts and plain facts: FqD FqE FqG FqH FqI FqK FqN. -/
import Derived.Test.YtaimlgfepkopkaaGreatB3
set_option linter.all false
namespace Go.X
open Go.Proofs
namespace C7
open bB bi ff _root_.Go.X.Tree iy kj lp fg lK lV
theorem yV(b:Nat)(p:Nat→Option Pt)(l t:Nat)(v:Qm)(hv:vH v.lv)(i:Int)(hi:0≤i∧i<8):bm (TE (some ⟨b,0⟩) i) (ah b (qL v.c p l t v.n)^jp l v.lv^tree 8 t v.ks^iG p v.fl) (λr=>bh (r=eM v i.toNat) (ah b (qL v.c p l t v.n)^jp l v.lv^tree 8 t v.ks^iG p v.fl)):=
 br λw0 S R h=>by
  have hl:=hv.FE;refine ac (aj h rfl (af (ff.sF l v.lv i (by omega)) h λr w h=>?_));obtain⟨hr,h⟩:=h.aB;rw[hr];have hi':((i.toNat:Nat):Int)=i:=by omega
  refine ae (λc=>?_) λc=>?_
  ·have c:bH v.lv i≠0:=bV;refine au.aE ?_ h.aG;unfold eM;rw[hi',aC c]
  have c:¬bH v.lv i≠0:=bV;refine ac ⟨hi,aj h (rI _ _ _ _ _ i.toNat (by omega)) ?_⟩;cases hf:v.fl i.toNat with
  |none=>
   rw[(h.D6 p v.fl (by omega) hf).1];refine ae (λc=>(by simp at c)) λ_=>?_;refine au.aE ?_ h.aG;unfold eM;rw[hi',ay c,hf]
  |some f=>
   obtain⟨a,hp,h⟩:=h.dm p v.fl (by omega) hf;rw[hp];refine ae (λ_=>?_) λc=>(by simp at c);obtain⟨s,h⟩:=h.jx a;refine ac (aj h rfl ?_);have hs:=(h.rd (s:=s)).2;have h:=h.pX a s f;have h:=h.sX p v.fl (by omega) p v.fl a f (λ_ _=>rfl) (λ_ _=>rfl) hp hf;refine ae (λc2=>?_) λc2=>?_
   ·have c2:(s.len:Int)>0:=gk;refine au.aE ?_ h.aG;unfold eM;rw[hi',ay c,hf];exact(ay (λe=>by rw[e]at hs;simp only[rN]at hs;omega)).symm
   ·have c2:¬(s.len:Int)>0:=gk;refine au.aE ?_ h.aG;unfold eM;rw[hi',ay c,hf];exact(aC (jD (by omega))).symm
theorem yW(b:Nat)(p:Nat→Option Pt)(l t:Nat)(v:Qm)(hv:vH v.lv)(i:Int)(hi:0≤i∧i<8)(a:Nat)(s:Sl)(f:Fl)(hf:v.fl i.toNat=some f)(hp:p i.toNat=some ⟨a,0⟩):bm (TE (some ⟨b,0⟩) i)
  (ah b (qL v.c p l t v.n)^jp l v.lv^ah a [.int .i64 f.cr,.int .u64 f.nx,.int .u64 f.si,.sl s]^aP s KS f.sg) (λr=>bh (r=eM v i.toNat) (ah b (qL v.c p l t v.n)^jp l v.lv^ah a [.int .i64 f.cr,.int .u64 f.nx,.int .u64 f.si,.sl s]^aP s KS f.sg)):=
 br λw0 S R h=>by
  have hl:=hv.FE;refine ac (aj h rfl (af (ff.sF l v.lv i (by omega)) h λr w h=>?_));obtain⟨hr,h⟩:=h.aB;rw[hr];have hi':((i.toNat:Nat):Int)=i:=by omega
  refine ae (λc=>?_) λc=>?_
  ·have c:bH v.lv i≠0:=bV;refine au.aE ?_ h.aG;unfold eM;rw[hi',aC c]
  have c:¬bH v.lv i≠0:=bV;refine ac ⟨hi,aj h (rI _ _ _ _ _ i.toNat (by omega)) ?_⟩;rw[hp];refine ae (λ_=>?_) λc=>(by simp at c);refine ac (aj h rfl ?_);have hs:=(h.rd (s:=s)).2;refine ae (λc2=>?_) λc2=>?_
  ·have c2:(s.len:Int)>0:=gk;refine au.aE ?_ h.aG;unfold eM;rw[hi',ay c,hf];exact(ay (λe=>by rw[e]at hs;simp only[rN]at hs;omega)).symm
  ·have c2:¬(s.len:Int)>0:=gk;refine au.aE ?_ h.aG;unfold eM;rw[hi',ay c,hf];exact(aC (jD (by omega))).symm
theorem DQ(b:Nat)(p:Nat→Option Pt)(l t:Nat)(v:Qm)(hv:vH v.lv)(i qI ao:Int)(hi:0≤i∧i<8)(hl:U qI)(hs:∀f,v.fl i.toNat=some f→U f.si):bm (OM (some ⟨b,0⟩) i qI ao) (ah b (qL v.c p l t v.n)^jp l v.lv^tree 8 t v.ks^iG p v.fl) (λr=>bh (r=idle v i.toNat qI ao) (ah b (qL v.c p l t v.n)^jp l v.lv^tree 8 t v.ks^iG p v.fl)):=
 br λw0 S R h=>by
  refine ac ⟨hi,aj h (rI _ _ _ _ _ i.toNat (by omega)) ?_⟩;cases hf:v.fl i.toNat with
  |none=>
   rw[(h.D6 p v.fl (by omega) hf).1];refine ae (λc=>(by simp at c)) λ_=>?_;refine au.aE ?_ h.aG;unfold idle;rw[hf]
  |some f=>
   rw[X4 h p v.fl (i:=i.toNat) (by omega),hf];refine ae (λ_=>?_) λc=>(by simp at c);refine af (yV b p l t v hv i hi) h λr w h=>?_;obtain⟨hr,h⟩:=h.aB;rw[hr];obtain⟨a,hp,h⟩:=h.dm p v.fl (by omega) hf;rw[hp];refine ae (λc=>?_) λc=>?_
   ·have c:eM v i.toNat=0:=bV;obtain⟨s,h⟩:=h.jx a;refine ac (aj h rfl (af (eJ _ _ (hs f hf) hl) h λr w h=>?_));obtain⟨hr,h⟩:=h.aB;rw[hr];have h:=h.pX a s f;have h:=h.sX p v.fl (by omega) p v.fl a f (λ_ _=>rfl) (λ_ _=>rfl) hp hf;refine au.aE ?_ h.aG;unfold idle;rw[hf];simp[c]
   ·have c:¬eM v i.toNat=0:=bV;have h:=h.sX p v.fl (by omega) p v.fl a f (λ_ _=>rfl) (λ_ _=>rfl) hp hf;refine au.aE ?_ h.aG;unfold idle;rw[hf];simp[c]
theorem all_congr(p q:Nat→Option Pt)(fl gl:Nat→Option Fl)(hp:∀j,j<8→q j=p j)(hf:∀j,j<8→gl j=fl j):iG q gl=iG p fl:=gQ 8 λj hj=>by
 show kN _ _=kN _ _;rw[hp j hj,hf j hj]
abbrev bX(v:Qm)(ao:Int)(k:Nat):Qm:={v with fl:=λi=>if i<k∧idle v i 3000000000 ao=true then none else v.fl i}
theorem yk(v:Qm)(ao:Int)(k:Nat):idle (bX v ao k) k 3000000000 ao=idle v k 3000000000 ao:=by
 have e:(bX v ao k).fl k=v.fl k:=by unfold bX;simp
 have e2:eM (bX v ao k) k=eM v k:=by unfold eM;rw[e]
 unfold idle;rw[e,e2]
theorem Dx(b:Nat)(p:Nat→Option Pt)(l t:Nat)(v:Qm)(hv:iQ v)(ao:Int):bm (Si (some ⟨b,0⟩) ao) (ah b (qL v.c p l t v.n)^jp l v.lv^tree 8 t v.ks^iG p v.fl) (λ_=>ex λp:Nat→Option Pt=>ah b (qL ((bD v ao)).c p l t ((bD v ao)).n)^jp l ((bD v ao)).lv^tree 8 t ((bD v ao)).ks^iG p ((bD v ao)).fl):=
 br λw0 S R h=>by
  have h:au w0 S R w0 ((ex λp:Nat→Option Pt=>ah b (qL ((bX v ao (0:Int).toNat)).c p l t ((bX v ao (0:Int).toNat)).n)^jp l ((bX v ao (0:Int).toNat)).lv^tree 8 t ((bX v ao (0:Int).toNat)).ks^iG p ((bX v ao (0:Int).toNat)).fl)^aT):=by
   have e:bX v ao (0:Int).toNat=v:=(by unfold bX;simp);rw[e];exact au.s_ (f:=λp:Nat→Option Pt=>ah b (qL v.c p l t v.n)^jp l v.lv^tree 8 t v.ks^iG p v.fl) p h.aG
  refine cS (λy:Int=>ex λp:Nat→Option Pt=>ah b (qL ((bX v ao y.toNat)).c p l t ((bX v ao y.toNat)).n)^jp l ((bX v ao y.toNat)).lv^tree 8 t ((bX v ao y.toNat)).ks^iG p ((bX v ao y.toNat)).fl) (λy:Int=>0≤y∧y≤8) (λy:Int=>(8-y).toNat) h.bk ⟨by decide,by decide⟩ ?_;rintro(y:Int) w hy h;obtain⟨p,h⟩:=(h.le (aF _)).lX;have hw:IntKind.i64.wrap (y+1)=y+1:=wi (by omega) (by omega);refine ae (λc=>?_) λc=>?_
  ·have c:y<8:=bV;have hfy:(bX v ao y.toNat).fl y.toNat=v.fl y.toNat:=(by unfold bX;simp);refine af (DQ b p l t (bX v ao y.toNat) hv.lv y 3000000000 ao ⟨hy.1,c⟩ (by unfold U;omega) (λf hf=>(hv.fl _ f (hfy▸hf)).2.si)) h λr w h=>?_;obtain⟨hr,h⟩:=h.aB;rw[hr,yk];have hn:(y+1).toNat=y.toNat+1:=(by omega);dsimp only;rw[hw];have key:∀(q:Nat→Option Pt) (w:World),au w0 S R w (ah b (qL v.c q l t v.n)^jp l v.lv^tree 8 t v.ks^iG q (bX v ao (y+1).toNat).fl^aT)→(((0≤y+1∧y+1≤8)∧au w0 S R w (ex λp:Nat→Option Pt=>ah b (qL ((bX v ao (y+1).toNat)).c p l t ((bX v ao (y+1).toNat)).n)^jp l ((bX v ao (y+1).toNat)).lv^tree 8 t ((bX v ao (y+1).toNat)).ks^iG p ((bX v ao (y+1).toNat)).fl))∧(8-(y+1)).toNat<(8-y).toNat):=λq w h=>by
    refine⟨⟨by omega,?_⟩,by omega⟩;have h:au w0 S R w ((ex λp:Nat→Option Pt=>ah b (qL ((bX v ao (y+1).toNat)).c p l t ((bX v ao (y+1).toNat)).n)^jp l ((bX v ao (y+1).toNat)).lv^tree 8 t ((bX v ao (y+1).toNat)).ks^iG p ((bX v ao (y+1).toNat)).fl)^aT):=au.s_ (f:=λp:Nat→Option Pt=>ah b (qL ((bX v ao (y+1).toNat)).c p l t ((bX v ao (y+1).toNat)).n)^jp l ((bX v ao (y+1).toNat)).lv^tree 8 t ((bX v ao (y+1).toNat)).ks^iG p ((bX v ao (y+1).toNat)).fl) q h.aG;exact h.bk
   refine ae (λc2=>?_) λc2=>?_
   ·obtain⟨f,hf,_⟩:=pj c2;obtain⟨a,hp,h⟩:=h.dm p (bX v ao y.toNat).fl (i:=y.toNat) (by omega) (hfy.trans hf);refine ac ⟨⟨hy.1,c⟩,?_⟩;refine az h b (qL v.c (vI p y.toNat none) l t v.n) rfl (iD (by show 0+9+y.toNat*1+1≤20;omega)) (Mw _ _ _ _ _ y.toNat (by omega) none) λw h=>?_;have h:=h.inN p (bX v ao y.toNat).fl (i:=y.toNat) (by omega) (vI p y.toNat none) (bX v ao (y+1).toNat).fl (λj e=>z4 _ _ e) (λj e=>by
     unfold bX;simp only;have:(j<(y+1).toNat∧idle v j 3000000000 ao=true)↔(j<y.toNat∧idle v j 3000000000 ao=true):=⟨λh=>⟨by omega,h.2⟩,λh=>⟨by omega,h.2⟩⟩;by_cases h:j<y.toNat∧idle v j 3000000000 ao=true
     ·rw[aC h,aC (this.2 h)]
     ·rw[ay h,ay (λx=>h (this.1 x))]) (rZ _ _ _) (by unfold bX;exact aC ⟨by omega,c2⟩)
    exact key (vI p y.toNat none) w h.aG
   ·have e:(bX v ao (y+1).toNat).fl=(bX v ao y.toNat).fl:=funext λj=>by
     unfold bX;simp only;have:(j<(y+1).toNat∧idle v j 3000000000 ao=true)↔(j<y.toNat∧idle v j 3000000000 ao=true):=⟨λh=>⟨by
      have:j≠y.toNat:=λe=>by have:=h.2;rw[e,c2]at this;cases this
      omega,h.2⟩,λh=>⟨by omega,h.2⟩⟩
     by_cases h:j<y.toNat∧idle v j 3000000000 ao=true
     ·rw[aC h,aC (this.2 h)]
     ·rw[ay h,ay (λx=>h (this.1 x))]
    refine key p w ?_;rw[e];exact h.aG
  ·have c:¬y<8:=bV;have e:y=8:=(by omega);subst e;have e:iG p (bD v ao).fl=iG p (bX v ao (8:Int).toNat).fl:=all_congr _ _ _ _ (λ_ _=>rfl) λj hj=>by
    show(if _ then _ else _)=(if _ then _ else _);by_cases h:idle v j 3000000000 ao=true
    ·rw[aC h,aC ⟨hj,h⟩]
    ·rw[ay h,ay (λx=>h x.2)]
   refine au.gX p ?_;rw[e];exact h.aG
theorem Lm(b:Nat)(p:Nat→Option Pt)(l t:Nat)(v:Qm)(hv:iQ v)(n:Nat)(s:Sg)(ao:Int)(hs:0≤sK s∧sK s<8)(hn:U ao):bm (Sj (some ⟨b,0⟩) (some ⟨n,0⟩) ao)
  (ah n (Ks.mk KS s)^ah b (qL v.c p l t v.n)^jp l v.lv^tree 8 t v.ks^iG p v.fl) (λr=>bh (r=h_ v s ao) (ah n (Ks.mk KS (if h_ v s ao=0 then drawn v s ao else s))^ah b (qL v.c p l t v.n)^jp l v.lv^tree 8 t v.ks^iG p v.fl)):=
 br λw0 S R h=>by
  have hH:U (cH v.c):=by have:=hv.cf.h;unfold U;omega
  refine aH h λw h=>ac (ac (aj h rfl ⟨hs,aj h (rI _ _ _ _ _ _ (by omega)) ?_⟩));refine ac (aj h rfl (af (eJ _ _ hn hH) h λr w h=>?_));obtain⟨hr,h⟩:=h.aB;rw[hr];refine aK h (λ_=>ah n (Ks.mk KS s)^ah b (qL v.c p l t v.n)^jp l v.lv^tree 8 t v.ks^iG p v.fl) (λ_=>h_ v s ao=0) (λ_ w hx h=>?_) ?_
  ·refine ac (aj h rfl (ac ?_));refine az h n (Ks.mk KS (drawn v s ao)) rfl rfl rfl λw h=>?_;refine au.aE hx.symm ?_;rw[aC hx];exact h.aG
  refine aH h λw h=>ac (ac (aj h rfl (aj h rfl ?_)));refine ae (λc=>?_) λc1=>?_
  ·have c:v.n≥cL v.c:=bV;have e:h_ v s ao=2:=(by unfold h_;rw[aC c]);refine au.aE e.symm ?_;rw[e,ay (by decide)];exact h.aG
  have c1:¬v.n≥cL v.c:=by simpa using c1
  refine aK h (λ_=>ah n (Ks.mk KS s)^ah b (qL v.c p l t v.n)^jp l v.lv^tree 8 t v.ks^iG p v.fl) (λy:Bool=>y=true↔∃f,v.fl (sK s).toNat=some f∧(f.sg.length:Int)≥cW v.c) (λy w hx h=>?_) ?_
  ·refine ae (λc=>?_) λc2=>?_
   ·have e:h_ v s ao=3:=(by unfold h_;rw[ay c1,aC (hx.1 c)]);refine au.aE e.symm ?_;rw[e,ay (by decide)];exact h.aG
   have c2:¬∃f,v.fl (sK s).toNat=some f∧(f.sg.length:Int)≥cW v.c:=λx=>by have:=hx.2 x;rw[c2]at this;cases this
   refine ac (aj h rfl ?_);refine ae (λc=>?_) λc3=>?_
   ·have c:ur s>bA ao (cH v.c):=bV;refine ac (aj h rfl ?_);refine ae (λc4=>?_) λc4=>?_
    ·have e:h_ v s ao=4:=(by unfold h_;rw[ay c1,ay c2,aC ⟨c,c4⟩]);refine au.aE e.symm ?_;rw[e,ay (by decide)];exact h.aG
    ·exact⟨by unfold h_;rw[ay c1,ay c2,ay (λx=>by rw[c4]at x;cases x.2)],h.aG⟩
   ·have c3:¬ur s>bA ao (cH v.c):=(by simpa using c3);exact⟨by unfold h_;rw[ay c1,ay c2,ay (λx=>c3 x.1)],h.aG⟩
  refine aH h λw h=>?_;cases hf:v.fl (sK s).toNat with
  |none=>
   rw[(h.D6 p v.fl (i:=(sK s).toNat) (by omega) hf).1];refine ae (λc=>(by simp at c)) λ_=>?_;exact⟨⟨λe=>(by cases e),λ⟨_,e,_⟩=>(by cases e)⟩,h.aG⟩
  |some f=>
   obtain⟨a,hp,h⟩:=h.dm p v.fl (i:=(sK s).toNat) (by omega) hf;rw[hp];refine ae (λ_=>?_) λc=>(by simp at c);obtain⟨s',h⟩:=h.jx a;have hs':=(h.rd (s:=s')).2;refine ac (ac (aj h rfl (aj h rfl ?_)));have h:=h.pX a s' f;have h:=h.sX p v.fl (i:=(sK s).toNat) (by omega) p v.fl a f (λ_ _=>rfl) (λ_ _=>rfl) hp hf;refine⟨?_,h.aG⟩;show decide ((s'.len:Int)≥cW v.c)=true↔_;rw[gK,hs'];exact⟨λx=>⟨f,rfl,x⟩,λ⟨g,hg,x⟩=>by cases hg;exact x⟩
theorem Qh{v:Qm}(hv:iQ v){i:Nat}(ao:Int)(hi:eM v i≠0):(eE v i ao).fl=v.fl∧(eE v i ao).lv=v.lv:=by
 refine⟨funext λj=>?_,?_⟩
 ·by_cases e:j=i
  ·subst e;show jT v.fl j _ j=_;rw[cg];cases hf:v.fl j with
   |none=>
    refine absurd (y5.2 ⟨λh=>?_,λf h=>by rw[hf]at h;cases h⟩) hi;obtain⟨f,h2⟩:=hv.th j h;rw[hf]at h2;cases h2
   |some f=>unfold fF;rw[hf];simp[hi]
  ·exact dX _ _ e
 ·show j_ v i=_;unfold j_;rw[aC hi]
theorem NG(b:Nat)(p:Nat→Option Pt)(l t:Nat)(v:Qm)(hv:iQ v)(i ao:Int)(hi:0≤i∧i<8):bm (So (some ⟨b,0⟩) i ao) (ah b (qL v.c p l t v.n)^jp l v.lv^tree 8 t v.ks^iG p v.fl) (λ_=>ex λp:Nat→Option Pt=>ah b (qL ((eE v i.toNat ao)).c p l t ((eE v i.toNat ao)).n)^jp l ((eE v i.toNat ao)).lv^tree 8 t ((eE v i.toNat ao)).ks^iG p ((eE v i.toNat ao)).fl):=
 br λw0 S R h=>by
  have h8:i.toNat<8:=by omega
  have hi':((i.toNat:Nat):Int)=i:=by omega
  have hl:=hv.lv.FE;have hb:∀x:Option Pt,Nat.ble (0+9+i.toNat*1+[Lf.ptr x].length) (qL v.c p l t v.n).length=true:=λx=>iD (by show 0+9+i.toNat*1+1≤20;omega);refine ac ⟨hi,aj h (rI _ _ _ _ _ i.toNat h8) ?_⟩;refine aK h (λ_=>wZ (λx:(Nat→Option Pt)×Nat×Fl=>(x.1 i.toNat=some ⟨x.2.1,0⟩∧∀j,j≠i.toNat→x.1 j=p j)∧{x.2.2 with si:=0}=fF v i.toNat ao) (λx=>ah b (qL v.c x.1 l t v.n)^jp l v.lv^tree 8 t v.ks^lV.jx x.2.1 x.2.2^qR p v.fl i.toNat)) (λ_=>eM v i.toNat=0) (λ_ w hx h=>?_) ?_
  ·obtain⟨⟨q,a,g⟩,⟨⟨hq,hq2⟩,hg⟩,h⟩:=h.Mj;dsimp only at hq hq2 hg h;refine ac ⟨hi,aj h (rI _ _ _ _ _ i.toNat h8) ?_⟩;dsimp only;rw[hq];obtain⟨s,h⟩:=h.jx a;refine ac (az h a [.int .i64 g.cr,.int .u64 g.nx,.int .u64 0,.sl s] rfl rfl rfl λw h=>?_);have h:=h.FU a s g.cr g.nx 0 g.sg {g with si:=0} rfl;refine ac (aj h rfl ?_);refine af (pr l v.lv i true (by omega)) h λr w h=>?_;obtain⟨hr,h⟩:=h.aB;have hw:j_ v i.toNat=(jX v.lv i true).2:=by unfold j_;rw[ay (by rw[hx];simp),hi']
   rw[←hw,hg]at h;have h:=h.sX p v.fl (i:=i.toNat) h8 q (eE v i.toNat ao).fl a (fF v i.toNat ao) hq2 (λj e=>dX _ _ e) hq (cg _ _ _);exact au.gX q h.aG
  cases hf:v.fl i.toNat with
  |none=>
   obtain⟨hp,h⟩:=h.D6 p v.fl h8 hf;rw[hp];refine ae (λ_=>?_) λc=>(by simp at c);refine aH h λw h=>ac (ac (aj h rfl (aA h λn8 w h=>⟨hi,?_⟩)));refine az h b (qL v.c (vI p i.toNat (some ⟨n8,0⟩)) l t v.n) rfl (hb _) (Mw _ _ _ _ _ i.toNat h8 _) λw h=>?_;have h:=h.nil KS;have h:=h.pX n8 ⟨none,0,0⟩ ⟨cF v.c,0,0,[]⟩;have hp0:eM v i.toNat=0:=y5.2 ⟨λh=>(by obtain⟨f,h2⟩:=hv.th _ h;rw[hf]at h2;cases h2),λf h=>(by rw[hf]at h;cases h)⟩;refine⟨hp0,(h.qH (f:=λx:(Nat→Option Pt)×Nat×Fl=>ah b (qL v.c x.1 l t v.n)^jp l v.lv^tree 8 t v.ks^lV.jx x.2.1 x.2.2^qR p v.fl i.toNat) (vI p i.toNat (some ⟨n8,0⟩),n8,⟨cF v.c,0,0,[]⟩) ⟨⟨rZ _ _ _,λj e=>z4 _ _ e⟩,?_⟩).bk⟩;unfold fF;rw[hf]
  |some f=>
   have hpn:(p i.toNat).isNone=false:=(by rw[X4 h p v.fl h8,hf];rfl);refine ae (λc=>(by rw[hpn]at c;cases c)) λ_=>?_;refine af (yV b p l t v hv.lv i hi) h λr w h=>?_;obtain⟨hr,h⟩:=h.aB;rw[hr];refine ae (λc=>?_) λc=>?_
   ·have c:eM v i.toNat≠0:=bV;obtain⟨e1,e2⟩:=Qh hv ao c;refine au.gX p ?_;rw[e1,e2];exact h.aG
   have c:eM v i.toNat=0:=bV;refine af (DQ b p l t v hv.lv i 40000000 ao hi (by unfold U;omega) (λf hf=>(hv.fl _ f hf).2.si)) h λr w h=>?_;obtain⟨hr,h⟩:=h.aB;rw[hr];obtain⟨a,hp,h⟩:=h.dm p v.fl h8 hf;rw[hp];refine ae (λc2=>?_) λc2=>?_
   ·obtain⟨s,h⟩:=h.jx a;refine aH h λw h=>ac (ac (aj h rfl (aj h rfl (ac (az h a [.int .i64 (if cQ v.c>f.cr then cQ v.c else f.cr),.int .u64 f.nx,.int .u64 f.si,.sl s] rfl rfl rfl λw h=>?_)))));have h:=h.FU a s (if cQ v.c>f.cr then cQ v.c else f.cr) f.nx f.si f.sg {f with cr:=if cQ v.c>f.cr then cQ v.c else f.cr} rfl;refine⟨c,(h.qH (f:=λx:(Nat→Option Pt)×Nat×Fl=>ah b (qL v.c x.1 l t v.n)^jp l v.lv^tree 8 t v.ks^lV.jx x.2.1 x.2.2^qR p v.fl i.toNat) (p,a,{f with cr:=if cQ v.c>f.cr then cQ v.c else f.cr}) ⟨⟨hp,λj e=>rfl⟩,?_⟩).bk⟩;unfold fF;rw[hf];simp[c,c2]
   ·refine⟨c,(h.qH (f:=λx:(Nat→Option Pt)×Nat×Fl=>ah b (qL v.c x.1 l t v.n)^jp l v.lv^tree 8 t v.ks^lV.jx x.2.1 x.2.2^qR p v.fl i.toNat) (p,a,f) ⟨⟨hp,λj e=>rfl⟩,?_⟩).bk⟩;unfold fF;rw[hf];simp[c,c2]
theorem Ph(b:Nat)(v:Qm)(hv:iQ v)(s:Sg)(ao:Int)(hs:U (P5 s)∧U (ur s))(hn:U ao):bm (RN (some ⟨b,0⟩) s ao) (nX b v) (λr=>bh (r=(fo v s ao).1) (nX b (fo v s ao).2)):=
 br λw0 S R h=>by
  refine aA h λn w h=>ae (λc=>(by simp at c)) λ_=>aj h rfl (af (iP _ _ _) h λr w h=>?_);obtain⟨hr,h⟩:=h.aB;rw[hr];refine ae (λc=>?_) λc=>?_
  ·have c:¬(0≤sK s∧sK s≤7):=(by simpa only[mX,Es]using c);have e:fo v s ao=((0,8),v):=(by unfold fo;rw[aC c]);rw[e];exact au.aE rfl h.aG
  have c1:0≤sK s∧sK s≤7:=bV;refine aj h rfl (af (iP _ _ _) h λr w h=>?_);obtain⟨hr,h⟩:=h.aB;rw[hr];refine ae (λc=>?_) λc=>?_
  ·have c:¬(1≤k_ s∧k_ s≤65536):=(by simpa only[mX,Es]using c);have e:fo v s ao=((0,1),v):=(by unfold fo;rw[ay (by simpa using c1),aC c]);rw[e];exact au.aE rfl h.aG
  have c2:1≤k_ s∧k_ s≤65536:=bV;obtain⟨p,l,t,h⟩:=h.nX b;refine af (Dx b p l t v hv ao) h λ_ w h=>?_;obtain⟨p,h⟩:=h.lX;have hc:=hv.collect ao;refine af (Lm b p l t (bD v ao) hc n s ao (by omega) hn) h λr w h=>?_;obtain⟨hr,h⟩:=h.aB;rw[hr];refine ae (λc=>?_) λc=>?_
  ·have c:h_ (bD v ao) s ao=0:=bV;have e:fo v s ao=((0,0),kl (eE (bD v ao) (sK s).toNat ao) (sK s).toNat (drawn v s ao)):=(by unfold fo;rw[ay (by simpa using c1),ay gk,aC c]);rw[aC c]at h;rw[e,c];have ed:drawn (bD v ao) s ao=drawn v s ao:=rfl;rw[ed]at h;have hnn:v.n<512:=by
    unfold h_ at c;split at c
    ·cases c
    ·rename_i h4;have h5:=hc.cf.l;have:¬v.n≥cL v.c:=h4;have h5:1≤cL v.c∧cL v.c≤512:=h5;omega
   have hd:oX (drawn v s ao):=DF hv hs c2 hn;refine aj h rfl (af (NG b p l t (bD v ao) hc (sK s) ao (by omega)) h λ_ w h=>?_);obtain⟨p,h⟩:=h.lX;have hw:(eE (bD v ao) (sK s).toNat ao).fl (sK s).toNat=some (fF (bD v ao) (sK s).toNat ao):=cg _ _ _;have hlen:(fF (bD v ao) (sK s).toNat ao).sg.length≤512:=by
    rw[z8];cases hh:(bD v ao).fl (sK s).toNat with
    |none=>simp
    |some f=>exact(hc.len hh).2
   refine aH h λw h=>aj h rfl (ac ⟨by show 0≤sK s∧sK s<8;omega,aj h (rI _ _ _ _ _ (sK s).toNat (by omega)) ?_⟩);refine aH h λw h=>ar (b:=n) (x:=drawn v s ao) h rfl ?_;obtain⟨a,hp,h⟩:=h.dm p (eE (bD v ao) (sK s).toNat ao).fl (i:=(sK s).toNat) (by omega) hw;rw[hp];obtain⟨g,hg⟩:∃g,g=fF (bD v ao) (sK s).toNat ao:=⟨_,rfl⟩;rw[←hg]at h hlen;obtain⟨sl,h⟩:=h.jx a;refine ac (aj h rfl (aA h λn16 w h=>aI h rfl ?_));have h:=h.cT n16 KS [drawn v s ao] rfl (by simp);refine dE (s:=sl) (x:=⟨some ⟨n16,0⟩,1,1⟩) (ys:=[drawn v s ao]) h rfl (by show g.sg.length+1≤_;omega) λs17 w _ h=>?_;refine ac (az h a [.int .i64 g.cr,.int .u64 g.nx,.int .u64 g.si,.sl s17] rfl rfl rfl λw h=>ac (aj h rfl (ac ?_)));have h:=h.FU a s17 g.cr g.nx g.si (g.sg++[drawn v s ao]) {g with sg:=g.sg++[drawn v s ao]} rfl;have h:=h.sX p (eE (bD v ao) (sK s).toNat ao).fl (i:=(sK s).toNat) (by omega) p (kl (eE (bD v ao) (sK s).toNat ao) (sK s).toNat (drawn v s ao)).fl a {g with sg:=g.sg++[drawn v s ao]} (λ_ _=>rfl) (λj e=>by
    rw[lK.add_eq];exact(dX _ _ e).trans (dX (bD v ao).fl (some (fF (bD v ao) (sK s).toNat ao)) e).symm) hp (by rw[lK.add_eq,hg];exact cg _ _ _)
   have hnw:IntKind.i64.wrap (v.n+1)=v.n+1:=wi (by have:=hv.n0;omega) (by omega);refine aU h rfl λw h=>?_;refine au.aE rfl ?_;have h:=h.du (b:=b) (L':=qL v.c p l t (v.n+1)) (by rw[show qL v.c p l t (v.n+1)=qL v.c p l t (IntKind.i64.wrap (v.n+1)) by rw[hnw]];rfl);have h:au w0 S R w (ah b (qL (kl (eE (bD v ao) (sK s).toNat ao) (sK s).toNat (drawn v s ao)).c p l t (kl (eE (bD v ao) (sK s).toNat ao) (sK s).toNat (drawn v s ao)).n)^jp l (kl (eE (bD v ao) (sK s).toNat ao) (sK s).toNat (drawn v s ao)).lv^tree 8 t (kl (eE (bD v ao) (sK s).toNat ao) (sK s).toNat (drawn v s ao)).ks^iG p (kl (eE (bD v ao) (sK s).toNat ao) (sK s).toNat (drawn v s ao)).fl^aT):=by
    rw[lK.add_eq]at h⊢;exact h.aG
   exact(h.qv b p l t (kl (eE (bD v ao) (sK s).toNat ao) (sK s).toNat (drawn v s ao))).bk
  ·have c:¬h_ (bD v ao) s ao=0:=bV;have e:fo v s ao=((h_ (bD v ao) s ao,0),bD v ao):=(by unfold fo;rw[ay (by simpa using c1),ay gk,ay c]);rw[e];refine au.aE rfl ?_;exact(h.qv b p l t (bD v ao)).bk
end C7

namespace wP
open bB bi ff _root_.Go.X.Tree iy kj lp fg lK lV C7
theorem EJ(a:Nat)(f:Fl)(hf:f.sg≠[]):bm (Of (some ⟨a,0⟩)) (lV.jx a f) (λr=>bh (r=da f) (lV.jx a f)):=
 br λw0 S R h=>by
  obtain⟨s,h⟩:=h.jx a;cases hs:f.sg with
  |nil=>exact absurd hs hf
  |cons x l=>
   rw[hs]at h;refine aH h λw h=>ac (ac (aj h rfl (aj h rfl (bR (s:=s) h (by decide) (by simp) ?_))));refine eU h s 0 3 x rfl rfl (by decide) rfl ?_;have h:=h.FU a s f.cr f.nx f.si (x::l) f (by rw[←hs]);refine au.aE ?_ h.aG;unfold da;rw[hs]
theorem HE(a:Nat)(f:Fl)(hf:f.sg≠[])(i:Int)(hi:0≤i∧i<8):bm (Og (some ⟨a,0⟩) i) (lV.jx a f) (λr=>bh (r=(da f,i)) (lV.jx a f)):=
 br λw0 S R h=>by
  refine aA h λn w h=>af (EJ a f hf) h λr w h=>?_;obtain⟨hr,h⟩:=h.aB;rw[hr];refine aw h (by rfl) λw h=>ar (b:=n) (x:=(da f,IntKind.u64.wrap i)) h rfl ?_;rw[wu (n:=i) (by omega) (by omega)];exact au.aE rfl h.aG
theorem Nk(b:Nat)(p:Nat→Option Pt)(l t:Nat)(v:Qm)(hc:Af v.c)(hn:1≤v.n∧v.n≤512)(a:Nat)(f:Fl)(i:Nat)(hf:Wl i f)(s:Sg)(ss:List Sg)(hs:f.sg=s::ss)(hl:f.sg.length≤512)(ao aQ:Int)(hw:U ao)(hr:U aQ):
  bm (RC (some ⟨b,0⟩) (some ⟨a,0⟩) ao aQ) (ah b (qL v.c p l t v.n)^lV.jx a f)
   (λr=>bh (r=s) (ah b (qL v.c p l t (v.n-1))^lV.jx a {f with cr:=f.cr-k_ s,nx:=bA ao (dJ (k_ s) (fR aQ (cR v.c))),sg:=f.sg.tail})):=
 br λw0 S R h=>by
  obtain⟨hok,hok2⟩:=hf.sg s (by rw[hs];simp);have hok3:=hok2.ln;have hcr:=hf.cr;have hL:U (fR aQ (cR v.c)):=BC hr hc.r;have hD:U (dJ (k_ s) (fR aQ (cR v.c))):=om (by omega) hL;obtain⟨sl,h⟩:=h.jx a;have hsl:=(h.rd (s:=sl)).2;have hcap:=oz (s:=sl) (K:=KS) (xs:=f.sg) h;have hsl':sl.len=ss.length+1:=by rw[hsl,hs];rfl
  refine aA h λn1 w h=>ac (aj h rfl (bR (s:=sl) h (by decide) (by rw[hs];simp) ?_));refine dW h sl 0 (y:=s) (by rw[hs];rfl) rfl (aA h λn6 w h=>aw h (by rfl) λw h=>ac (aj h rfl ?_));refine vF (s:=sl) h 1 sl.len sl.cap rfl rfl rfl rfl (by omega) (by omega) (by omega) (by omega) λs9 h1 h2 h=>?_;have ht:(f.sg.take sl.len).drop 1=f.sg.tail:=by rw[kp (by omega),List.drop_one]
  rw[ht]at h;refine ac (az h a [.int .i64 f.cr,.int .u64 f.nx,.int .u64 f.si,.sl s9] rfl rfl rfl λw h=>?_);have hnw:IntKind.i64.wrap (v.n-1)=v.n-1:=wi (by omega) (by omega);refine ac (aj h rfl (ac (az h b (qL v.c p l t (v.n-1)) rfl rfl (by rw[show qL v.c p l t (v.n-1)=qL v.c p l t (IntKind.i64.wrap (v.n-1)) by rw[hnw]];rfl) λw h=>?_)));have hcw:IntKind.i64.wrap (f.cr-k_ s)=f.cr-k_ s:=wi (by omega) (by omega);refine aH h λw h=>ac (aj h rfl (aj h rfl (ac (az h a [.int .i64 (f.cr-k_ s),.int .u64 f.nx,.int .u64 f.si,.sl s9] rfl rfl (by rw[show([.int .i64 (f.cr-k_ s),.int .u64 f.nx,.int .u64 f.si,.sl s9]:List Lf)=[.int .i64 (IntKind.i64.wrap (f.cr-k_ s)),.int .u64 f.nx,.int .u64 f.si,.sl s9] by rw[hcw]];rfl) λw h=>?_))));refine aH h λw h=>aj h rfl (ac (aj h rfl (af (LO aQ (cR v.c) hr hc.r) h λr w h=>?_)));obtain⟨he,h⟩:=h.aB;rw[he];refine aI h rfl (af (vU (k_ s) _ (by omega) hL) h λr w h=>?_);obtain⟨he,h⟩:=h.aB;rw[he];refine af (eJ _ _ hw hD) h λr w h=>?_;obtain⟨he,h⟩:=h.aB;rw[he];refine ac (az h a [.int .i64 (f.cr-k_ s),.int .u64 (bA ao (dJ (k_ s) (fR aQ (cR v.c)))),.int .u64 f.si,.sl s9] rfl rfl rfl λw h=>?_);have h:=h.FU a s9 (f.cr-k_ s) (bA ao (dJ (k_ s) (fR aQ (cR v.c)))) f.si f.sg.tail {f with cr:=f.cr-k_ s,nx:=bA ao (dJ (k_ s) (fR aQ (cR v.c))),sg:=f.sg.tail} rfl;refine ar (b:=n6) (x:=s) h rfl (aw h (by rfl) λw h=>ar (b:=n1) (x:=s) h rfl ?_);exact au.aE rfl h.aG
def pS(v:Qm)(i:Int):Bool:=decide (0≤i∧i≤7)&&(v.fl i.toNat).isSome
theorem xB(b:Nat)(p:Nat→Option Pt)(l t:Nat)(v:Qm)(i:Int):bm (WB (some ⟨b,0⟩) i) (ah b (qL v.c p l t v.n)^jp l v.lv^tree 8 t v.ks^iG p v.fl) (λr=>bh (r=pS v i) (ah b (qL v.c p l t v.n)^jp l v.lv^tree 8 t v.ks^iG p v.fl)):=
 br λw0 S R h=>by
  unfold pS;refine ae (λ_=>?_) λc=>(by simp at c);refine af (iP _ _ _) h λr w h=>?_;obtain⟨hr,h⟩:=h.aB;rw[hr];refine ae (λc=>?_) λc=>?_
  ·have c':0≤i∧i≤7:=bJ c;refine ac ⟨by omega,aj h (rI _ _ _ _ _ i.toNat (by omega)) ?_⟩;refine au.aE ?_ h.aG;rw[X4 h p v.fl (i:=i.toNat) (by omega),kV c'];cases v.fl i.toNat<;>rfl
  ·refine au.aE ?_ h.aG;rw[show decide (0≤i∧i≤7)=false from c];rfl
theorem Pw(b:Nat)(v:Qm):bm (Xw (some ⟨b,0⟩)) (nX b v) (λr=>bh (r=v.n) (nX b v)):=
 br λw0 S R h=>by
  refine ae (λc=>(by simp at c)) λ_=>?_;obtain⟨p,l,t,h⟩:=h.nX b;refine ac (aj h rfl ?_);exact au.aE rfl (h.qv b p l t v).aG
theorem mg(b:Nat)(v:Qm)(c:Cf):bm (XN (some ⟨b,0⟩) c) (nX b v) (λr=>bh (r=(qg v c).1) (nX b (qg v c).2)):=
 br λw0 S R h=>by
  unfold qg;refine aA h λn1 w h=>ae (λc=>(by simp at c)) λ_=>ar (b:=n1) (x:=c) h rfl (af (nh c) h λr w h=>?_);obtain⟨hr,h⟩:=h.aB;rw[hr];refine ae (λc1=>?_) λc1=>?_
  ·rw[ay (by simpa using c1)];exact au.aE rfl h.aG
  ·rw[aC (by simpa using c1)];obtain⟨p,l,t,h⟩:=h.nX b;refine ar (b:=n1) (x:=c) h rfl (ac (az h b (qL c p l t v.n) rfl rfl rfl λw h=>?_));exact au.aE rfl (h.qv b p l t {v with c:=c}).aG
theorem jj(c:Cf):bm (Xp c) aT (λr=>ex λb:Nat=>bh (r=if may c then(some ⟨b,0⟩,0)else(none,13)) (if may c then nX b (B8 c)else aT)):=
 br λw0 S R h=>by
  refine aA h λn1 w h=>ar (b:=n1) (x:=c) h rfl (af (nh c) h λr w h=>?_);obtain⟨hr,h⟩:=h.aB;rw[hr];refine ae (λc1=>?_) λc1=>?_
  ·have c1:¬may c=true:=(by simpa using c1);refine au.gX 0 (au.aE ?_ ?_)
   ·rw[ay c1]
   ·rw[ay c1];exact h.fV
  ·have c1:may c=true:=(by simpa using c1);refine aH h λw h=>ar (b:=n1) (x:=c) h rfl (af ff.jj h λr w h=>?_);obtain⟨l,h⟩:=h.lX;obtain⟨hr,h⟩:=h.aB;rw[hr];refine aJ (b:=n1) h (af (iy.jj 8) h λr w h=>?_);obtain⟨t,h⟩:=h.lX;obtain⟨hr,h⟩:=h.aB;rw[hr];refine aJ (b:=n1) h (aA h λb w h=>?_);have hA:au w0 S R w (iG (λ_=>none) (λ_=>none)^tree 8 t []^jp l ([],[])^ah b (qL c (λ_=>none) l t 0)^aT):=by
    have h:au w0 S R w (aT^aT^aT^aT^aT^aT^aT^aT^aT^tree 8 t []^jp l ([],[])^ah b (qL c (λ_=>none) l t 0)^aT):=by
     have h:au w0 S R w (tree (room 8) t []^jp l ([],[])^ah b (qL c (λ_=>none) l t 0)^aT):=h.aG;have hE:∀{F:SP},au w0 S R w F→au w0 S R w (aT^F):=λh=>h.le ((aF _).trans (aV _ _));exact hE (hE (hE (hE (hE (hE (hE (hE (hE h))))))))
    have hp:∀{F:SP},Le (aT^F) (kN none none^F):=aZ (λ_ _ _ h=>⟨rfl,h⟩) Le.rfl;have e:iG (λ_=>none) (λ_=>none)=kN none none^kN none none^kN none none^kN none none^kN none none^kN none none^kN none none^kN none none^aT:=rfl;rw[e];refine h.le (Le.trans ?_ (cM _ _ _));refine hp.trans (aZ Le.rfl (Le.trans ?_ (cM _ _ _)));refine hp.trans (aZ Le.rfl (Le.trans ?_ (cM _ _ _)));refine hp.trans (aZ Le.rfl (Le.trans ?_ (cM _ _ _)));refine hp.trans (aZ Le.rfl (Le.trans ?_ (cM _ _ _)));refine hp.trans (aZ Le.rfl (Le.trans ?_ (cM _ _ _)));refine hp.trans (aZ Le.rfl (Le.trans ?_ (cM _ _ _)));refine hp.trans (aZ Le.rfl (Le.trans ?_ (cM _ _ _)));exact hp.trans (aZ Le.rfl Le.rfl)
   refine au.gX b (au.aE ?_ ?_)
   ·rw[aC c1]
   ·rw[aC c1];exact(hA.qv b (λ_=>none) l t (B8 c)).bk
theorem B7(b:Nat)(v:Qm):bm (UI (some ⟨b,0⟩)) (nX b v) (λr=>bh (r=((ni v.ks).1.1,(ni v.ks).2)) (nX b v)):=
 br λw0 S R h=>by
  refine ae (λc=>(by simp at c)) λ_=>?_;obtain⟨p,l,t,h⟩:=h.nX b;refine ac (aj h rfl (af (fg.B7 t 8 v.ks) h λr w h=>?_));obtain⟨hr,h⟩:=h.aB;rw[hr];refine aA h λn w h=>aw h (by rfl) λw h=>aj h rfl ?_;exact au.aE rfl (h.qv b p l t v).aG
abbrev KF:Ks:=[.int .i64,.int .i64,.int .i64,.int .u64,.int .u64,.sl]
abbrev D6:Int×Int×Int×Int×Int×Sl:=(0,0,0,0,0,⟨none,0,0⟩)
def nV(v:Qm)(i:Int)(s:Sl):(Int×Int×Int×Int×Int×Sl)×Bool:=if pS v i then match v.fl i.toNat with
 |some f=>((i,f.cr,eM v i.toNat,f.nx,f.si,s),true)
 |none=>(D6,false)
 else(D6,false)
def EX(v:Qm)(i:Int):List Sg:=if pS v i then match v.fl i.toNat with
 |some f=>f.sg
 |none=>[]
 else []
theorem Lq(b:Nat)(v:Qm)(hv:iQ v)(i:Int):bm (XB (some ⟨b,0⟩) i) (nX b v) (λr=>ex λs:Sl=>bh (r=nV v i s) (aP s KS (EX v i)^nX b v)):=
 br λw0 S R h=>by
  obtain⟨p,l,t,h⟩:=h.nX b;refine aA h λn1 w h=>af (xB b p l t v i) h λr w h=>?_;obtain⟨hr,h⟩:=h.aB;rw[hr];refine ae (λc=>?_) λc=>?_
  ·have c:pS v i=false:=bV;refine aw h (by rfl) λw h=>ar (b:=n1) (x:=D6) h rfl ?_;have h:=(h.qv b p l t v).nil KS;have e:EX v i=[]:=(by unfold EX;rw[ay (by rw[c];simp)]);refine au.gX ⟨none,0,0⟩ (au.aE ?_ ?_)
   ·unfold nV;rw[ay (by rw[c];simp)]
   ·rw[e];exact h.aG
  ·have c:pS v i=true:=bV;have c':=c;unfold pS at c';simp only[fG,gK,qx]at c';obtain⟨hi,f,hf⟩:=c';have e:EX v i=f.sg:=(by unfold EX;rw[aC c,hf]);have hlen:=(hv.len hf).2;refine ac ⟨by omega,aj h (rI _ _ _ _ _ i.toNat (by omega)) (aH h λw h=>?_)⟩;obtain⟨a,hp,h1⟩:=h.dm p v.fl (i:=i.toNat) (by omega) hf;rw[hp];obtain⟨s,h⟩:=h1.jx a;refine ac (ac (ac (ac (aj h rfl (aj h rfl (aj h rfl (aj h rfl ?_)))))));refine af (yW b p l t v hv.lv i (by omega) a s f hf hp) h λr w h=>?_;obtain⟨hr,h⟩:=h.aB;rw[hr];refine aI h rfl (aI h rfl (aI h rfl (aI h rfl ?_)));refine bI (AH s f.sg (by omega)) h λs2 w h=>?_;refine aI h rfl (aI h rfl (aI h rfl (aw h (by rfl) λw h=>ar (b:=n1) (x:=(i,f.cr,eM v i.toNat,f.nx,f.si,s2)) h rfl ?_)));have h:=h.pX a s f;have h:=h.sX p v.fl (i:=i.toNat) (by omega) p v.fl a f (λ_ _=>rfl) (λ_ _=>rfl) hp hf;have h:=h.qv b p l t v;refine au.gX s2 (au.aE ?_ ?_)
   ·unfold nV;rw[aC c,hf]
   ·rw[e];exact h.aG
theorem IQ(b:Nat)(v:Qm)(hv:iQ v)(i:Int):bm (RI (some ⟨b,0⟩) i) (nX b v) (λr=>aP r KS (cw v i).1^nX b (cw v i).2):=
 br λw0 S R h=>by
  obtain⟨p,l,t,h⟩:=h.nX b;refine af (xB b p l t v i) h λr w h=>?_;obtain⟨hr,h⟩:=h.aB;rw[hr];refine ae (λc=>?_) λc=>?_
  ·have c:pS v i=false:=bV;have h:=(h.qv b p l t v).nil KS;have e:cw v i=([],v):=by
    unfold cw;split
    ·rfl
    ·rename_i hi;have hi:0≤i∧i≤7:=wh.1 hi;unfold pS at c;rw[kV hi]at c;cases hf:v.fl i.toNat with
     |none=>rfl
     |some f=>rw[hf]at c;cases c
   rw[e];exact h.aG
  ·have c:pS v i=true:=bV;unfold pS at c;simp only[fG,gK,qx]at c;obtain⟨hi,f,hf⟩:=c;have hlen:=hv.len hf;have hi8:i.toNat<8:=(by omega);have hi':((i.toNat:Nat):Int)=i:=(by omega);have hl:=hv.lv.FE;have hn:=hv.le;have hn0:=hv.n0;refine ac ⟨by omega,aj h (rI _ _ _ _ _ i.toNat hi8) ?_⟩;obtain⟨a,hp,h⟩:=h.dm p v.fl hi8 hf;rw[hp];refine aK h (λ_=>ah b (qL v.c p l t v.n)^jp l v.lv^tree 8 t (cw v i).2.ks^lV.jx a f^qR p v.fl i.toNat) (λ_=>True) (λ_ w _ h=>?_) ?_
   ·refine ac (aj h rfl (af (ug l v.lv i (by omega)) h λr w h=>?_));obtain⟨_,h⟩:=h.aB;rw[show(jl v.lv i).2=dm v.lv i from rfl]at h;refine ac ⟨by omega,?_⟩;refine az h b (qL v.c (vI p i.toNat none) l t v.n) rfl (iD (by show 0+9+i.toNat*1+1≤20;omega)) (Mw _ _ _ _ _ i.toNat hi8 none) λw h=>?_;obtain⟨s,h⟩:=h.jx a;have hs:=(h.rd (s:=s)).2;have hnw:IntKind.i64.wrap (v.n-((s.len:Nat):Int))=v.n-f.sg.length:=by rw[hs];exact wi (by omega) (by omega)
    refine aH h λw h=>ac (ac (aj h rfl (aj h rfl (ac ?_))));refine az h b (qL v.c (vI p i.toNat none) l t (v.n-f.sg.length)) rfl rfl (by rw[←hnw];rfl) λw h=>?_;refine ac (aj h rfl ?_);refine bI (AH s f.sg (by omega)) h λs2 w h=>?_;have h:=h.inN p v.fl hi8 (vI p i.toNat none) (jT v.fl i.toNat none) (λj e=>z4 _ _ e) (λj e=>dX _ _ e) (rZ _ _ _) (cg _ _ _);have e:cw v i=(f.sg,{v with fl:=jT v.fl i.toNat none,lv:=dm v.lv i,ks:=(cw v i).2.ks,n:=v.n-f.sg.length}):=by
     unfold cw;rw[ay (λx=>x hi),hf]
    have h:=h.qv b (vI p i.toNat none) l t {v with fl:=jT v.fl i.toNat none,lv:=dm v.lv i,ks:=(cw v i).2.ks,n:=v.n-f.sg.length};rw[←show(cw v i).2={v with fl:=jT v.fl i.toNat none,lv:=dm v.lv i,ks:=(cw v i).2.ks,n:=v.n-f.sg.length}from jF Prod.snd e]at h;have e1:(cw v i).1=f.sg:=jF Prod.fst e;rw[e1];exact h.aG
   ·obtain⟨s,h⟩:=h.jx a;refine af (yW b p l t v hv.lv i (by omega) a s f hf hp) h λr w h=>?_;obtain⟨hr,h⟩:=h.aB;rw[hr];have h:=h.pX a s f;have ek:(cw v i).2.ks=if eM v i.toNat=3 then v.ks.erase (da f,i)else v.ks:=by
     unfold cw;rw[ay (λx=>x hi),hf]
    rw[ek];refine ae (λc=>?_) λc=>?_
    ·have c:eM v i.toNat=3:=bV;obtain⟨h3,g,hg,hg2⟩:=va.1 c;rw[hf]at hg;cases hg;have hk:(da f,i)∈v.ks:=(hv.ks _).2 ⟨i.toNat,f,hf,hg2,h3,by rw[hi']⟩;refine aH h λw h=>ac (aj h rfl (af (HE a f hg2 i (by omega)) h λr w h=>?_));obtain⟨hr,h⟩:=h.aB;rw[hr];refine aI h rfl (af (yn t 8 v.ks (da f,i)) h λr w h=>?_);obtain⟨_,h⟩:=h.aB;rw[aC c];have ed:FA v.ks (da f,i)=(0,v.ks.erase (da f,i)):=(by unfold FA;rw[aC hk]);rw[ed]at h;exact⟨trivial,h.aG⟩
    ·have c:¬eM v i.toNat=3:=bV;rw[ay c];exact⟨trivial,h.aG⟩
end wP

namespace wR
open bB bi ff _root_.Go.X.Tree iy kj lp fg lK lV C7 wP
theorem CR{α:Type}{p:α→Bool}:∀{l:List α} {i:Nat},(∀j x,j<i→l[j]?=some x→p x=true)→(∀x,l[i]?=some x→p x=false)→l.takeWhile p=l.take i
 |[],i,_,_=>by simp
 |x::l,0,_,h=>by rw[zr,ay (by rw[h x rfl];simp)];rfl
 |x::l,i+1,h1,h2=>by
  rw[zr,aC (h1 0 x (by omega) rfl),List.take_succ_cons,CR (λj y hj hy=>h1 (j+1) y (by omega) hy) h2]
theorem H3{α:Type}{l:List α}{i:Nat}{x:α}(h:l[i]?=some x):l.take (i+1)=l.take i++[x]:=by rw[lF,h];rfl
theorem PJ(b:Nat)(p:Nat→Option Pt)(l t:Nat)(c:Cf)(n:Int)(v:LV)(hv:vH v)(hn:v.1≠[]):bm (RA (some ⟨b,0⟩)) (ah b (qL c p l t n)^jp l v) (λr=>bh (r=decide (v.2≠[])) (ah b (qL c p l t n)^jp l v)):=
 Q3 λw S R h=>by
  have hfew:=hv.FE;refine aA h λn1 w h=>ac (aj h rfl (af (ff.iJ _) h λf w h=>?_));obtain⟨m,h⟩:=h.lX;obtain⟨hf,h⟩:=h.aB;rw[hf];have h:=(h.take (ah n1 [.bool false])).iF (p:=∀j y,j<0→(kF v)[j]?=some y→y.2=true) (λj y hj=>by omega);refine oF (ff.lq m l v (by omega)) (λi=>bh (∀j y,j<i→(kF v)[j]?=some y→y.2=true) (ah n1 [.bool false])) (λj=>bh (j=1∧v.2≠[]) (ah n1 [.bool true])) h ?_ ?_ ?_
  ·rintro i (x:Int×Bool) hx w S R A4 next jump rdy bsy hmid hnext hjump h
   refine hmid h λw h=>?_;have h:=h.take (bh (∀j y,j<i→(kF v)[j]?=some y→y.2=true) (ah n1 [.bool false]));obtain⟨hno,h⟩:=h.aB;refine ae (λc=>?_) λc=>?_
   ·have c:x.2=false:=bV;have h2:v.2≠[]:=λe=>by
     rcases Dj hx with⟨_,_,h3⟩|⟨_,h3,_⟩
     ·rw[c]at h3;cases h3
     ·rw[e]at h3;simp at h3
    refine az h n1 [.bool true] rfl rfl rfl λw h=>?_;have h:=(h.take (ah n1 [.bool true])).iF (p:=1=1∧v.2≠[]) ⟨rfl,h2⟩;exact hjump 1 (by decide) h
   ·have c:x.2=true:=bV;have h:=(h.take (ah n1 [.bool false])).iF (p:=∀j y,j<i+1→(kF v)[j]?=some y→y.2=true) (λj y hj hy=>by
     by_cases hji:j=i
     ·rw[hji,hx]at hy;cases hy;exact c
     ·exact hno j y (by omega) hy)
    exact hnext h
  ·intro w h;have h:=h.take (bh (∀j y,j<(kF v).length→(kF v)[j]?=some y→y.2=true) (ah n1 [.bool false]));obtain⟨hno,h⟩:=h.aB;have h2:v.2=[]:=by
    cases h3:v.2 with
    |nil=>rfl
    |cons x r=>
     have:=hno v.1.length (x,false) (by rw[x4,h3];simp) (by unfold kF;rw[h3];simp);cases this
   refine az h n1 [.bool false] rfl rfl rfl λw h=>?_;refine aj h rfl (aN h λw h=>?_);exact au.aE (by rw[h2];simp) h.aG
  ·intro j w hj h;have h:=h.take (bh (j=1∧v.2≠[]) (ah n1 [.bool true]));obtain⟨⟨hj1,h2⟩,h⟩:=h.aB;rw[hj1];refine aj h rfl (aN h λw h=>?_);exact au.aE (by simp[h2]) h.aG
theorem Pg(b:Nat)(p:Nat→Option Pt)(l t:Nat)(v:Qm)(hv:iQ v)(ao:Int):bm (Rz (some ⟨b,0⟩) ao) (ah b (qL v.c p l t v.n)^jp l v.lv^tree 8 t v.ks) (λ_=>ah b (qL v.c p l t v.n)^jp l (oN v ao).lv^tree 8 t (oN v ao).ks):=
 Q3 λw0 S R h=>by
  have hkk:=hv.keys;have hfew:v.ks.length≤8:=by
   have:=pn 8 _ hkk.1 λx hx=>(hkk.2 x hx).1;simpa using this
  have hdl:(io v ao).length≤8:=lQ (List.takeWhile_prefix _).length_le hfew;refine aA h λn1 w h=>aA h λn2 w h=>?_;refine aK h (λ_=>ex λs:Sl=>ah n1 [.int .u64 ao]^ah n2 [.sl s]^aP s KR (io v ao)^ah b (qL v.c p l t v.n)^jp l v.lv^tree 8 t v.ks) (λ_=>True) (λ_ w _ h=>?_) ?_
  ·obtain⟨s,h⟩:=(h.le (aF _)).lX;have hs:=(h.rd (s:=s)).2;refine aj h rfl ?_;have hsplit:v.ks=io v ao++v.ks.dropWhile (λk=>decide (k.1≤ao)):=zl.symm;have h:au w0 S R w (ah n1 [.int .u64 ao]^ah n2 [.sl s]^aP s KR (io v ao)^ah b (qL v.c p l t v.n)^jp l (v.lv.1,v.lv.2++((io v ao).take (0:Int).toNat).map Prod.snd)^tree 8 t ((io v ao).drop (0:Int).toNat++v.ks.dropWhile (λk=>decide (k.1≤ao)))):=by
    have e:((io v ao).drop (0:Int).toNat++v.ks.dropWhile (λk=>decide (k.1≤ao)))=v.ks:=hsplit.symm;have e2:(v.lv.1,v.lv.2++((io v ao).take (0:Int).toNat).map Prod.snd)=v.lv:=(by simp);rw[e,e2];exact h.aG
   refine cS (λy:Int=>ah n1 [.int .u64 ao]^ah n2 [.sl s]^aP s KR (io v ao)^ah b (qL v.c p l t v.n)^jp l (v.lv.1,v.lv.2++((io v ao).take y.toNat).map Prod.snd)^tree 8 t ((io v ao).drop y.toNat++v.ks.dropWhile (λk=>decide (k.1≤ao)))) (λy:Int=>0≤y∧y≤(io v ao).length) (λy:Int=>((io v ao).length-y).toNat) h ⟨by decide,by show(0:Int)≤_;omega⟩ ?_
   ·rintro(y:Int) w hy h;have hyw:IntKind.i64.wrap (y+1)=y+1:=wi (by omega) (by omega);refine ae (λc=>?_) λc=>?_
    ·have c:y<(s.len:Int):=bV;obtain⟨k,hk⟩:∃k,(io v ao)[y.toNat]?=some k:=⟨_,jG (by omega)⟩;refine bR (s:=s) h hy.1 (by omega) (dW h s y.toNat hk rfl ?_);refine aA h λn25 w h=>aw h (by rfl) λw h=>aH h λw h=>ar (b:=n25) (x:=k) h rfl ?_;have hd:(io v ao).drop y.toNat=k::(io v ao).drop (y.toNat+1):=pP hk;have hdel:FA ((io v ao).drop y.toNat++v.ks.dropWhile (λk=>decide (k.1≤ao))) k=(0,(io v ao).drop (y.toNat+1)++v.ks.dropWhile (λk=>decide (k.1≤ao))):=by
      rw[hd];unfold FA;rw[aC (by simp),mY,List.erase_cons_head]
     refine ac (aj h rfl (af (yn t 8 ((io v ao).drop y.toNat++v.ks.dropWhile (λk=>decide (k.1≤ao))) k) h λr w h=>?_));obtain⟨_,h⟩:=h.aB;rw[hdel]at h;have hkm:k∈v.ks:=by rw[hsplit,eC];exact .inl (kQ hk)
     have hk8:=hkk.2 k.2 (rP.2 ⟨k,hkm,rfl⟩);have hkw:IntKind.i64.wrap k.2=k.2:=wi (by omega) (by omega);refine aH h λw h=>ac (aj h rfl (aj h rfl ?_));rw[hkw];have hpl:((io v ao).take y.toNat).length≤8:=(by rw[fM];omega);have hvf:=hv.lv.FE;refine af (pr l (v.lv.1,v.lv.2++((io v ao).take y.toNat).map Prod.snd) k.2 false (by simp only[iE,kT];omega)) h λr w h=>?_;obtain⟨_,h⟩:=h.aB;have hp:(jX (v.lv.1,v.lv.2++((io v ao).take y.toNat).map Prod.snd) k.2 false).2=(v.lv.1,v.lv.2++((io v ao).take (y.toNat+1)).map Prod.snd):=by
      have hnin:bH (v.lv.1,v.lv.2++((io v ao).take y.toNat).map Prod.snd) k.2=0:=by
       rw[lD];intro hin;rw[←kR,eC]at hin;rcases hin with hin|hin
       ·exact hk8.2 hin
       ·have hnd:=hkk.1;rw[hsplit,rO,jE]at hnd;have hnd:=hnd.1;rw[←Ga y.toNat (io v ao),rO,jE,hd]at hnd;exact hnd.2.2 _ hin _ (by simp) rfl
      rw[jX,ay (by omega),ay (by rw[hnin];simp),ay (by simp),H3 hk];simp
     rw[hp]at h;have e:(y+1).toNat=y.toNat+1:=by omega
     rw[hyw,e];exact⟨⟨by omega,h.aG⟩,by omega⟩
    ·have c:¬y<(s.len:Int):=bV;have e1:(io v ao).take y.toNat=io v ao:=kp (by omega);have e2:(io v ao).drop y.toNat=[]:=Bg (by omega);rw[e1,e2,oE]at h;refine aN h λw h=>?_;exact h.aG
  ·refine ac (aj h rfl (af (fg.iJ _) h λf w h=>?_));obtain⟨m,h⟩:=h.lX;obtain⟨hf,h⟩:=h.aB;rw[hf];have h:=(h.nil KR).eB (s:=⟨none,0,0⟩) (K:=KR) (ys:=v.ks.take 0) rfl;have h0:∀j x,j<0→v.ks[j]?=some x→decide (x.1≤ao)=true:=λj x hj=>by omega
   have h:=(h.take (ah n1 [.int .u64 ao]^ah n2 [.sl ⟨none,0,0⟩]^aP ⟨none,0,0⟩ KR (v.ks.take 0)));have h:=h.qH (f:=λs:Sl=>ah n1 [.int .u64 ao]^ah n2 [.sl s]^aP s KR (v.ks.take 0)) (φ:=λ_=>∀j x,j<0→v.ks[j]?=some x→decide (x.1≤ao)=true) ⟨none,0,0⟩ h0;refine oF (fg.lq m t 8 v.ks) (λi=>wZ (λ_:Sl=>∀j x,j<i→v.ks[j]?=some x→decide (x.1≤ao)=true) (λs:Sl=>ah n1 [.int .u64 ao]^ah n2 [.sl s]^aP s KR (v.ks.take i))) (λj=>wZ (λ_:Sl=>j=2) (λs:Sl=>ah n1 [.int .u64 ao]^ah n2 [.sl s]^aP s KR (io v ao))) h ?_ ?_ ?_
   ·rintro i (x:Key) hx w S R A4 next jump rdy bsy hmid hnext hjump h
    have hi:i<v.ks.length:=(gJ.1 hx).1;refine aA h λn12 w h=>aw h (by rfl) λw h=>hmid h λw h=>?_;have h:=h.take (wZ (λ_:Sl=>∀j x,j<i→v.ks[j]?=some x→decide (x.1≤ao)=true) (λs:Sl=>ah n1 [.int .u64 ao]^ah n2 [.sl s]^aP s KR (v.ks.take i)));obtain⟨s,hno,h⟩:=h.t_;refine aj h rfl (aj h rfl (ae (λc=>?_) λc=>?_))
    ·have c:x.1>ao:=bV;have e:io v ao=v.ks.take i:=CR hno λy hy=>by rw[hx]at hy;cases hy;simp;omega
     rw[←e]at h;have h:=h.qH (f:=λs:Sl=>ah n1 [.int .u64 ao]^ah n2 [.sl s]^aP s KR (io v ao)) (φ:=λ_=>2=2) s rfl;exact hjump 2 (by decide) h
    ·have c:¬x.1>ao:=bV;refine aj h rfl (ar (b:=n12) (x:=x) h rfl (aA h λn17 w h=>?_));have h:=h.cT n17 KR [x] rfl (by simp);refine dE (s:=s) (x:=⟨some ⟨n17,0⟩,1,1⟩) (ys:=[x]) h rfl (by rw[fM];simp;omega) λs18 w _ h=>?_;refine az h n2 [.sl s18] rfl rfl rfl λw h=>?_;have h:=h.eB (s:=s18) (K:=KR) (ys:=v.ks.take (i+1)) (H3 hx).symm;have h:=h.qH (f:=λs:Sl=>ah n1 [.int .u64 ao]^ah n2 [.sl s]^aP s KR (v.ks.take (i+1))) (φ:=λ_=>∀j x,j<i+1→v.ks[j]?=some x→decide (x.1≤ao)=true) s18 (λj y hj hy=>by
      by_cases hji:j=i
      ·rw[hji,hx]at hy;cases hy;simp;omega
      ·exact hno j y (by omega) hy)
     exact hnext h
   ·intro w h;have h:=h.take (wZ (λ_:Sl=>∀j x,j<v.ks.length→v.ks[j]?=some x→decide (x.1≤ao)=true) (λs:Sl=>ah n1 [.int .u64 ao]^ah n2 [.sl s]^aP s KR (v.ks.take v.ks.length)));obtain⟨s,hno,h⟩:=h.t_;have e:io v ao=v.ks.take v.ks.length:=CR hno λy hy=>by simp at hy
    rw[←e]at h;exact⟨trivial,au.gX s h.aG⟩
   ·intro j w hj h;have h:=h.take (wZ (λ_:Sl=>j=2) (λs:Sl=>ah n1 [.int .u64 ao]^ah n2 [.sl s]^aP s KR (io v ao)));obtain⟨s,hj1,h⟩:=h.t_;rw[hj1];exact⟨trivial,au.gX s h.aG⟩
theorem GY{v:LV}(hv:vH v)(hh:(bM v).2.2=true):(∃a,v.1=(bM v).1::a∧(bM v).2.1=true∧(eO v).2=(a,v.2++[(bM v).1])∧(cd v).2=(a,v.2))∨
  ∃c,v.1=[]∧v.2=(bM v).1::c∧(bM v).2.1=false∧(eO v).2=([],c++[(bM v).1])∧(cd v).2=([],c):=by
 obtain⟨a,c⟩:=v;have hf:∀(x:Int) (l:List Int),x∉l→l.filter (λy=>decide (y≠x))=l:=λx l hx=>by
  rw[zq];intro y hy;have:y≠x:=λe=>hx (e▸hy);simpa using this
 have hf2:∀(x:Int) (l:List Int),x∉l→(x::l).filter (λy=>decide (y≠x))=l:=λx l hx=>by
  rw[zg,ay (by simp),hf x l hx]
 cases a with
 |cons x a=>
  left;have hn:x∉a++c:=(kU.1 hv.1).1;rw[eC]at hn;refine⟨a,rfl,rfl,?_,?_⟩
  ·unfold eO dm;rw[aC hh];show(((x::a).filter (λy=>decide (y≠x))),c.filter (λy=>decide (y≠x))++[x])=(a,c++[x]);rw[hf2 x a λe=>hn (.inl e),hf x c λe=>hn (.inr e)]
  ·unfold cd dm;rw[aC hh];show(((x::a).filter (λy=>decide (y≠x))),c.filter (λy=>decide (y≠x)))=(a,c);rw[hf2 x a λe=>hn (.inl e),hf x c λe=>hn (.inr e)]
 |nil=>cases c with
  |nil=>cases hh
  |cons x c=>
   right;have hn:x∉c:=(kU.1 hv.1).1;refine⟨c,rfl,rfl,rfl,?_,?_⟩
   ·unfold eO dm;rw[aC hh];show(([]:List Int).filter (λy=>decide (y≠x)),(x::c).filter (λy=>decide (y≠x))++[x])=([],c++[x]);rw[hf2 x c hn];rfl
   ·unfold cd dm;rw[aC hh];show(([]:List Int).filter (λy=>decide (y≠x)),(x::c).filter (λy=>decide (y≠x)))=([],c);rw[hf2 x c hn];rfl
abbrev wt(fl:Nat→Option Fl)(L:List Int):Nat:=(L.map λx=>Vx (fl x.toNat)+1).sum
theorem oG(fl:Nat→Option Fl)(x:Int)(L:List Int):wt fl (x::L)=Vx (fl x.toNat)+1+wt fl L:=by simp[wt]
theorem Hc(fl:Nat→Option Fl)(L M:List Int):wt fl (L++M)=wt fl L+wt fl M:=by simp[wt]
theorem Ib(fl:Nat→Option Fl){i:Nat}(x:Option Fl){L:List Int}(h:(i:Int)∉L)(h0:∀y∈L,0≤y):wt (jT fl i x) L=wt fl L:=by
 unfold wt
 congr 1
 refine List.map_congr_left λy hy=>?_;have:y≠(i:Int):=λe=>h (e▸hy);have:=h0 y hy;rw[dX _ _ (show y.toNat≠i by omega)]
theorem A5(v:Qm):mu v=wt v.fl (v.lv.1++v.lv.2)+v.lv.1.length:=rfl
section
variable {v:Qm} {i:Nat} {f:Fl}
theorem uC(h:xw v i f):(∃a,v.lv.1=(i:Int)::a∧(bM v.lv).2.1=true∧(eO v.lv).2=(a,v.lv.2++[(i:Int)])∧(cd v.lv).2=(a,v.lv.2)∧(i:Int)∉a++v.lv.2∧∀y∈a++v.lv.2,0≤y)∨
  ∃c,v.lv.1=[]∧v.lv.2=(i:Int)::c∧(bM v.lv).2.1=false∧(eO v.lv).2=([],c++[(i:Int)])∧(cd v.lv).2=([],c)∧(i:Int)∉c∧∀y∈c,0≤y:=by
 have hs:=GY h.ok.lv h.is;rw[h.hd]at hs;obtain⟨hd,hr⟩:=h.ok.lv;rcases hs with⟨a,h1,h2,h3,h4⟩|⟨c,h1,h2,h3,h4,h5⟩
 ·rw[h1]at hd hr;exact .inl ⟨a,h1,h2,h3,h4,(kU.1 hd).1,λy hy=>(hr y (nS _ hy)).1⟩
 ·rw[h1,h2]at hd hr;exact .inr ⟨c,h1,h2,h3,h4,h5,(kU.1 hd).1,λy hy=>(hr y (nS _ hy)).1⟩
theorem uB(h:xw v i f)(hc:f.cr≤0):mu {v with fl:=jT v.fl i (some {f with cr:=f.cr+cQ v.c}),lv:=(eO v.lv).2}<mu v:=by
 have hq:=h.ok.cf.q;have e1:Vx (v.fl i)=(1-f.cr).toNat:=by rw[h.fl];rfl
 have e2:Vx (jT v.fl i (some {f with cr:=f.cr+cQ v.c}) i)=(1-(f.cr+cQ v.c)).toNat:=by rw[cg];rfl
 rw[A5,A5];dsimp only;rcases uC h with⟨a,h1,_,h3,_,h5,h6⟩|⟨c,h1,h2,_,h3,_,h5,h6⟩
 ·rw[h3,h1,←kR,mY,oG,Hc,Ib _ _ h5 h6,oG,eR,e1,e2];simp only[kS,wt,Gt,Gv];omega
 ·rw[h3,h1,h2,oE,oE,Hc,Ib _ _ h5 h6,oG,oG,eR,e1,e2];simp only[wt,Gt,Gv,rN];omega
theorem x6(h:xw v i f)(ht:(bM v.lv).2.1=true):mu {v with lv:=(eO v.lv).2}<mu v:=by
 rw[A5,A5];dsimp only;rcases uC h with⟨a,h1,_,h3,_⟩|⟨c,_,_,h4,_⟩
 ·rw[h3,h1,←kR,mY,oG,Hc,oG];simp only[kS,wt,Gt,Gv];omega
 ·rw[h4]at ht;cases ht
theorem pN(h:xw v i f)(x:Option Fl)(ks:List Key):mu {v with fl:=jT v.fl i x,lv:=(cd v.lv).2,ks:=ks}<mu v:=by
 rw[A5,A5];dsimp only;rcases uC h with⟨a,h1,_,_,h3,h5,h6⟩|⟨c,h1,h2,_,_,h3,h5,h6⟩
 ·rw[h3,h1,mY,oG,Ib _ _ h5 h6];simp only[kS];omega
 ·rw[h3,h1,h2,oE,oE,Ib _ _ h5 h6,oG];simp only[rN];omega
theorem G4{x:Option Fl}(h:v.fl i=x):jT v.fl i x=v.fl:=by
 funext j
 by_cases e:j=i
 ·rw[e,cg,h]
 ·exact dX _ _ e
theorem yx(h:xw v i f)(ao:Int)(rates:List Int)(k:Nat):lA ao rates (k+1) v=
  if f.cr≤0 then lA ao rates k {v with fl:=jT v.fl i (some {f with cr:=f.cr+cQ v.c}),lv:=(eO v.lv).2}
   else match f.sg with
    |[]=>if(bM v.lv).2.1=true∧v.lv.2≠[]then lA ao rates k {v with lv:=(eO v.lv).2}
     else lA ao rates k {v with lv:=(cd v.lv).2,fl:=jT v.fl i (some {f with si:=ao})}
    |s::_=>if da f>ao then lA ao rates k {v with lv:=(cd v.lv).2,ks:=ma v.ks (da f,(i:Int))}
     else(some s,dP v i f s ao (gM rates i)):=by
 have hm:=kO h.is;cases e:v.lv.1++v.lv.2 with
 |nil=>rw[e]at hm;cases hm
 |cons x l=>
  have e2:v.fl (bM v.lv).1.toNat=some f:=by rw[h.hd,eR];exact h.fl
  rw[lA,e,e2];simp only[h.hd,eR]
  rfl
end
theorem yy{v:Qm}(h:(bM v.lv).2.2=false)(ao:Int)(rates:List Int)(k:Nat):lA ao rates (k+1) v=(none,v):=by
 have e:=Ps h;rw[lA,e];rfl
abbrev PH:Sg:=(0,0,0,0,false)
abbrev zS:List Lf:=[.int .i64 0,.int .u64 0,.int .i64 0,.int .u64 0,.bool false]
def At:Option Sg→Sg×Bool
 |none=>(PH,false)
 |some s=>(s,true)
theorem BD{rates:List Int}(hr:∀x∈rates,U x)(i:Nat):U (gM rates i):=by
 unfold gM;split
 ·rename_i h;exact hr _ (kQ h)
 ·exact⟨by decide,by decide⟩
theorem xy(b:Nat)(v:Qm)(hv:iQ v)(ao:Int)(hn:U ao)(s:Sl)(rates:List Int)(hr:∀x∈rates,U x):bm (UH (some ⟨b,0⟩) ao s)
  (nX b v^ba s KU rates) (λr=>bh (r=At (jw v ao rates).1) (nX b (jw v ao rates).2)):=
 br λw0 S R h=>by
  obtain⟨p,l,t,h⟩:=h.nX b;refine aA h λn1 w h=>ae (λc=>(by simp at c)) λ_=>?_;refine af (Pg b p l t v hv ao) h λ_ w h=>?_;have h:au w0 S R w (ah n1 zS^ba s KU rates^ah b (qL ((oN v ao)).c p l t ((oN v ao)).n)^jp l ((oN v ao)).lv^tree 8 t ((oN v ao)).ks^iG p ((oN v ao)).fl):=h.aG;refine gn (λ(_:Unit) (u:Qm)=>ah n1 zS^ba s KU rates^ah b (qL u.c p l t u.n)^jp l u.lv^tree 8 t u.ks^iG p u.fl) (λ_ u=>iQ u∧∃k,mu u<k∧lA ao rates k u=jw v ao rates) (λ_ u=>mu u) (oN v ao) h ⟨hv.due ao,_,zh _,rfl⟩ ?_;rintro K (y:Unit) u w ⟨hu,k,hk,hR⟩ h next
  have hslen:=(h.rd (s:=s)).2;have hl:=hu.lv.FE;cases k with
  |zero=>omega
  |succ k=>
  refine ac (aj h rfl (af (ff.yw l u.lv (by omega)) h λr w h=>?_));obtain⟨hr2,h⟩:=h.aB;rw[hr2];cases hh:(bM u.lv).2.2 with
  |false=>
   rw[yy hh]at hR;refine ae (λ_=>?_) λc=>(by simp at c);refine aw h (by rfl) λw h=>ar (b:=n1) (x:=PH) h rfl ?_;rw[←hR];exact au.aE rfl (h.qv b p l t u).aG
  |true=>
   refine ae (λc=>(by simp at c)) λ_=>?_;have hm:=kO hh;have hx:=hu.lv.2 _ hm;obtain⟨i,hi⟩:∃i:Nat,(bM u.lv).1=(i:Int):=⟨(bM u.lv).1.toNat,by omega⟩;obtain⟨f,hf⟩:=hu.th i (by rw[hi]at hm;exact hm);have hA:xw u i f:=⟨hu,hi,hh,hf⟩;have hi8:=hA.lt;have hF:=(hu.fl i f hf).2;have hcr:=hF.cr;have hq:=hu.cf.q;rw[yx hA]at hR;have hit:((i:Nat):Int).toNat=i:=eR i;rw[hi];refine ac ⟨by omega,?_⟩;rw[hit];refine aj h (rI _ _ _ _ _ i hi8) ?_;obtain⟨a,hp,h⟩:=h.dm p u.fl hi8 hf;rw[hp];obtain⟨sl,h⟩:=h.jx a;have hsl:=(h.rd (s:=sl)).2;refine ac (aj h rfl (ae (λc=>?_) λc=>?_))
   ·have c:f.cr≤0:=bV;rw[aC c]at hR;have hcw:IntKind.i64.wrap (f.cr+cQ u.c)=f.cr+cQ u.c:=wi (by omega) (by omega);refine aH h λw h=>ac (ac (aj h rfl (aj h rfl (ac ?_))));refine az h a [.int .i64 (f.cr+cQ u.c),.int .u64 f.nx,.int .u64 f.si,.sl sl] rfl rfl (by rw[show([.int .i64 (f.cr+cQ u.c),.int .u64 f.nx,.int .u64 f.si,.sl sl]:List Lf)=[.int .i64 (IntKind.i64.wrap (f.cr+cQ u.c)),.int .u64 f.nx,.int .u64 f.si,.sl sl] by rw[hcw]];rfl) λw h=>?_;refine ac (aj h rfl (af (q_ l u.lv hu.lv) h λr w h=>?_));obtain⟨_,h⟩:=h.aB;have h:=h.FU a sl (f.cr+cQ u.c) f.nx f.si f.sg {f with cr:=f.cr+cQ u.c} rfl;have h:=h.sX p u.fl hi8 p (jT u.fl i (some {f with cr:=f.cr+cQ u.c})) a {f with cr:=f.cr+cQ u.c} (λ_ _=>rfl) (λj e=>dX _ _ e) hp (cg _ _ _);have hmu:=uB hA c;exact next () {u with fl:=jT u.fl i (some {f with cr:=f.cr+cQ u.c}),lv:=(eO u.lv).2} w ⟨hA.Fy c,k,by omega,hR⟩ h.aG hmu
   have c:¬f.cr≤0:=bV;rw[ay c]at hR;refine aK h (λ_=>ah n1 zS^ba s KU rates^ah b (qL u.c p l t u.n)^jp l u.lv^tree 8 t u.ks^qR p u.fl i^ah a [.int .i64 f.cr,.int .u64 f.nx,.int .u64 f.si,.sl sl]^aP sl KS f.sg) (λy:Bool=>y=true↔f.sg=[]∧((bM u.lv).2.1=true∧u.lv.2≠[])) (λ(y:Bool) w hy h=>?_) ?_
   ·refine ae (λc2=>?_) λc2=>?_
    ·obtain⟨e1,e2⟩:=hy.1 c2;rw[e1]at hR;simp only at hR;rw[aC e2]at hR;refine ac (aj h rfl (af (q_ l u.lv hu.lv) h λr w h=>?_));obtain⟨_,h⟩:=h.aB;have h:=h.pX a sl f;have h:=h.sX p u.fl hi8 p u.fl a f (λ_ _=>rfl) (λ_ _=>rfl) hp hf;have hmu:=x6 hA e2.1;exact next () {u with lv:=(eO u.lv).2} w ⟨hA.back,k,by omega,hR⟩ h.aG hmu
    have c2:¬(f.sg=[]∧((bM u.lv).2.1=true∧u.lv.2≠[])):=λx=>by have:=hy.2 x;rw[c2]at this;cases this
    refine ac (aj h rfl (ae (λc3=>?_) λc3=>?_))
    ·have c3:sl.len=0:=by
      have c3:(sl.len:Int)=0:=(by simpa using c3);omega
     have e1:f.sg=[]:=jD (by omega);rw[e1]at hR;simp only at hR;rw[ay (λx=>c2 ⟨e1,x⟩)]at hR;refine ac (aj h rfl (af (ff.nI l u.lv (by omega)) h λr w h=>?_));obtain⟨_,h⟩:=h.aB;refine ac (az h a [.int .i64 f.cr,.int .u64 f.nx,.int .u64 ao,.sl sl] rfl rfl rfl λw h=>?_);have h:=h.FU a sl f.cr f.nx ao f.sg {f with si:=ao} rfl;have h:=h.sX p u.fl hi8 p (jT u.fl i (some {f with si:=ao})) a {f with si:=ao} (λ_ _=>rfl) (λj e=>dX _ _ e) hp (cg _ _ _);have hmu:=pN hA (some {f with si:=ao}) u.ks;exact next () {u with lv:=(cd u.lv).2,fl:=jT u.fl i (some {f with si:=ao})} w ⟨hA.B_ e1 hn,k,by omega,by rw[e1];exact hR⟩ h.aG hmu
    have c3:sl.len≠0:=by
     have c3:¬(sl.len:Int)=0:=(by simpa using c3);omega
    have e1:f.sg≠[]:=λe=>by rw[e]at hsl;exact c3 (by simpa using hsl)
    cases hss:f.sg with
    |nil=>exact absurd hss e1
    |cons s0 ss=>
    rw[hss]at hR;simp only at hR;have h:=h.pX a sl f;refine af (EJ a f e1) h λr w h=>?_;obtain⟨hr3,h⟩:=h.aB;rw[hr3];refine ae (λc4=>?_) λc4=>?_
    ·have c4:da f>ao:=(by simpa using c4);rw[aC c4]at hR;obtain⟨hOk,hnin,hlt⟩:=hA.wait e1;refine ac (aj h rfl (af (ff.nI l u.lv (by omega)) h λr w h=>?_));obtain⟨_,h⟩:=h.aB;refine aH h λw h=>ac (aj h rfl (af (HE a f e1 i (by omega)) h λr w h=>?_));obtain⟨hr4,h⟩:=h.aB;rw[hr4];refine aI h rfl (af (FL t 8 u.ks (da f,(i:Int))) h λr w h=>?_);obtain⟨_,h⟩:=h.aB;have ei:LA 8 u.ks (da f,(i:Int))=(0,ma u.ks (da f,(i:Int))):=by
      unfold LA;rw[ay hnin,ay (by omega)]
     rw[ei]at h;have h:=h.sX p u.fl hi8 p u.fl a f (λ_ _=>rfl) (λ_ _=>rfl) hp hf;have hmu:=pN hA (some f) (ma u.ks (da f,(i:Int)));rw[G4 hf]at hmu;exact next () {u with lv:=(cd u.lv).2,ks:=ma u.ks (da f,(i:Int))} w ⟨hOk,k,by omega,hR⟩ h.aG hmu
    have c4:¬da f>ao:=(by simpa using c4);rw[ay c4]at hR;have hlen:=hu.len hf;have hlen1:1≤f.sg.length:=(by rw[hss];simp);have hle:=hu.le;have hUr:=BD hr i;have hsent:=hA.VV hss (by omega) hn (om (by have:=(hF.sg s0 (by rw[hss];simp)).2.ln;omega) (BC hUr hu.cf.r));refine aK h (λ_=>ah n1 zS^ba s KU rates^ah b (qL u.c p l t u.n)^jp l u.lv^tree 8 t u.ks^qR p u.fl i^lV.jx a f) (λy:Int=>y=gM rates i) (λ(y:Int) w hy h=>?_) ?_
    ·rw[hy];refine af (Nk b p l t u hu.cf (by omega) a f i hF s0 ss hss (by omega) ao (gM rates i) hn hUr) h λr w h=>?_;obtain⟨hr5,h⟩:=h.aB;rw[hr5];refine aw h (by rfl) λw h=>ar (b:=n1) (x:=s0) h rfl ?_;have h:=h.sX p u.fl hi8 p (dP u i f s0 ao (gM rates i)).fl a {f with cr:=f.cr-k_ s0,nx:=bA ao (dJ (k_ s0) (fR (gM rates i) (cR u.c))),sg:=f.sg.tail} (λ_ _=>rfl) (λj e=>dX _ _ e) hp (cg _ _ _);rw[←hR];exact au.aE rfl (h.qv b p l t (dP u i f s0 ao (gM rates i))).aG
    ·refine ae (λc5=>?_) λc5=>?_
     ·have c5:(i:Int)<s.len:=(by simpa using c5);obtain⟨x,hx⟩:∃x,rates[i]?=some x:=⟨_,jG (by omega)⟩;refine bR (s:=s) h (by omega) (by omega) ?_;refine dW h s i (y:=x) hx (by rw[hit];rfl) ?_;refine⟨?_,h.aG⟩;show x=gM rates i;unfold gM;rw[hx]
     ·have c5:¬(i:Int)<s.len:=(by simpa using c5);refine⟨?_,h.aG⟩;show(18446744073709551615:Int)=gM rates i;unfold gM;rw[vc (by omega)]
   ·refine ac (aj h rfl (ae (λc2=>?_) λc2=>?_))
    ·simp only[fG,p_]at c2;obtain⟨c2,c3⟩:=c2;have c2:sl.len=0:=by have c2:(sl.len:Int)=0:=c2;omega
     have e1:f.sg=[]:=jD (by omega);have hne:u.lv.1≠[]:=by
      rcases uC hA with⟨a',h1,_⟩|⟨c',_,_,h4,_⟩
      ·rw[h1];simp
      ·rw[c3]at h4;cases h4
     refine af (PJ b p l t u.c u.n u.lv hu.lv hne) h λr w h=>?_;obtain⟨hr3,h⟩:=h.aB;rw[hr3];refine⟨?_,h.aG⟩;show decide (u.lv.2≠[])=true↔_;rw[gK];exact⟨λx=>⟨e1,c3,x⟩,λx=>x.2.2⟩
    ·refine⟨?_,h.aG⟩;refine⟨λe=>(by cases e),λ⟨e1,e2,_⟩=>?_⟩;rw[e1]at hsl;have:sl.len=0:=by simpa using hsl
     rw[e2,this]at c2;cases c2
end wR

namespace ET
open bB bi ff _root_.Go.X.Tree iy kj lp fg lK lV C7 wP wR
abbrev lE:Cf:=(3000,15000,100,50,10000000000,0,false,100000,1000)
theorem Ba:bm Wp aT (λr=>bh (r=lE) aT):=
 br λw0 S R h=>by
  refine aA h λn1 w h=>aw h (by rfl) λw h=>ar (b:=n1) (x:=lE) h rfl ?_;exact au.aE rfl h.fV
theorem u0:U 0:=aX 0
theorem A_:may lE=true:=by decide
theorem yZ:Af lE:=yJ A_ (by decide) u0
end ET

namespace EU
open bB bi ff _root_.Go.X.Tree iy kj lp fg lK lV C7 wP wR ET
def nb(d:Cf):Cf:=((if 100≤cQ d∧cQ d≤65536 then cQ d else 3000),(if 100≤cF d∧cF d≤65536 then cF d else 15000),(if 1≤cL d∧cL d≤512 then cL d else 100),(if 1≤cW d∧cW d≤512 then cW d else 50),(if cH d≤4611686018427387904 then cH d else 10000000000),(cR d),(cD d),(if 1≤dM d∧dM d≤1073741824 then dM d else 100000),(if 100≤eF d∧eF d≤9000 then eF d else 1000))
abbrev zC:List Lf:=[.int .i64 0,.int .i64 0,.int .i64 0,.int .i64 0,.int .u64 0,.int .u64 0,.bool false,.int .i64 0,.int .i64 0]
theorem Fx(d:Cf):bm (Xf d) aT (λr=>bh (r=nb d) aT):=
 br λw0 S R h=>by
  refine aA h λn1 w h=>aA h λn2 w h=>af Ba h λr w h=>?_;obtain⟨hr,h⟩:=h.aB;rw[hr];refine aA h λn4 w h=>aw h (by rfl) λw h=>?_;have h:=h.du (b:=n4) (L':=[.int .i64 3000,.int .i64 15000,.int .i64 100,.int .i64 50,.int .u64 10000000000,.int .u64 0,.bool false,.int .i64 100000,.int .i64 1000]) rfl;have h:=h.du (b:=n4) (L':=[.int .i64 3000,.int .i64 15000,.int .i64 100,.int .i64 50,.int .u64 10000000000,.int .u64 0,.bool false,.int .i64 100000,.int .i64 1000]) rfl;have h:au w0 S R w (ah n1 (Ks.mk KC d)^ah n2 zC^ah n4 [.int .i64 3000,.int .i64 15000,.int .i64 100,.int .i64 50,.int .u64 10000000000,.int .u64 0,.bool false,.int .i64 100000,.int .i64 1000]):=h.aG;refine aK h (λ_:Unit=>ah n1 (Ks.mk KC d)^ah n2 zC^ah n4 [.int .i64 (if 100≤cQ d∧cQ d≤65536 then cQ d else 3000),.int .i64 15000,.int .i64 100,.int .i64 50,.int .u64 10000000000,.int .u64 0,.bool false,.int .i64 100000,.int .i64 1000]) (λ_=>True) ?_ ?_;rotate_left
  ·refine aK h (λ_:Bool=>ah n1 (Ks.mk KC d)^ah n2 zC^ah n4 [.int .i64 3000,.int .i64 15000,.int .i64 100,.int .i64 50,.int .u64 10000000000,.int .u64 0,.bool false,.int .i64 100000,.int .i64 1000]) (λy:Bool=>y=decide (100≤cQ d∧cQ d≤65536)) (λy w hy h=>?_) ?_
   ·rw[hy];refine ae (λc=>?_) λc=>?_
    ·have c:=bJ c;refine aj h rfl (az h n4 [.int .i64 (if 100≤cQ d∧cQ d≤65536 then cQ d else 3000),.int .i64 15000,.int .i64 100,.int .i64 50,.int .u64 10000000000,.int .u64 0,.bool false,.int .i64 100000,.int .i64 1000] rfl rfl (by rw[aC c];rfl) λw h=>⟨trivial,h.aG⟩)
    ·have c:=bQ c;have h:=h.du (b:=n4) (L':=[.int .i64 (if 100≤cQ d∧cQ d≤65536 then cQ d else 3000),.int .i64 15000,.int .i64 100,.int .i64 50,.int .u64 10000000000,.int .u64 0,.bool false,.int .i64 100000,.int .i64 1000]) (by rw[ay c]);exact⟨trivial,h.aG⟩
   ·refine aj h rfl (ae (λc=>aj h rfl ⟨?_,h.aG⟩) λc=>⟨?_,h.aG⟩)
    ·have c:cQ d≥100:=bV;show decide (cQ d≤65536)=_;rw[wj];exact⟨λx=>⟨c,x⟩,λx=>x.2⟩
    ·have c:¬cQ d≥100:=bV;exact(mZ λx=>c x.1).symm
  rintro-w-h;refine aK h (λ_:Unit=>ah n1 (Ks.mk KC d)^ah n2 zC^ah n4 [.int .i64 (if 100≤cQ d∧cQ d≤65536 then cQ d else 3000),.int .i64 (if 100≤cF d∧cF d≤65536 then cF d else 15000),.int .i64 100,.int .i64 50,.int .u64 10000000000,.int .u64 0,.bool false,.int .i64 100000,.int .i64 1000]) (λ_=>True) ?_ ?_;rotate_left
  ·refine aK h (λ_:Bool=>ah n1 (Ks.mk KC d)^ah n2 zC^ah n4 [.int .i64 (if 100≤cQ d∧cQ d≤65536 then cQ d else 3000),.int .i64 15000,.int .i64 100,.int .i64 50,.int .u64 10000000000,.int .u64 0,.bool false,.int .i64 100000,.int .i64 1000]) (λy:Bool=>y=decide (100≤cF d∧cF d≤65536)) (λy w hy h=>?_) ?_
   ·rw[hy];refine ae (λc=>?_) λc=>?_
    ·have c:=bJ c;refine aj h rfl (az h n4 [.int .i64 (if 100≤cQ d∧cQ d≤65536 then cQ d else 3000),.int .i64 (if 100≤cF d∧cF d≤65536 then cF d else 15000),.int .i64 100,.int .i64 50,.int .u64 10000000000,.int .u64 0,.bool false,.int .i64 100000,.int .i64 1000] rfl rfl (by rw[aC c];rfl) λw h=>⟨trivial,h.aG⟩)
    ·have c:=bQ c;have h:=h.du (b:=n4) (L':=[.int .i64 (if 100≤cQ d∧cQ d≤65536 then cQ d else 3000),.int .i64 (if 100≤cF d∧cF d≤65536 then cF d else 15000),.int .i64 100,.int .i64 50,.int .u64 10000000000,.int .u64 0,.bool false,.int .i64 100000,.int .i64 1000]) (by rw[ay c]);exact⟨trivial,h.aG⟩
   ·refine aj h rfl (ae (λc=>aj h rfl ⟨?_,h.aG⟩) λc=>⟨?_,h.aG⟩)
    ·have c:cF d≥100:=bV;show decide (cF d≤65536)=_;rw[wj];exact⟨λx=>⟨c,x⟩,λx=>x.2⟩
    ·have c:¬cF d≥100:=bV;exact(mZ λx=>c x.1).symm
  rintro-w-h;refine aK h (λ_:Unit=>ah n1 (Ks.mk KC d)^ah n2 zC^ah n4 [.int .i64 (if 100≤cQ d∧cQ d≤65536 then cQ d else 3000),.int .i64 (if 100≤cF d∧cF d≤65536 then cF d else 15000),.int .i64 (if 1≤cL d∧cL d≤512 then cL d else 100),.int .i64 50,.int .u64 10000000000,.int .u64 0,.bool false,.int .i64 100000,.int .i64 1000]) (λ_=>True) ?_ ?_;rotate_left
  ·refine aK h (λ_:Bool=>ah n1 (Ks.mk KC d)^ah n2 zC^ah n4 [.int .i64 (if 100≤cQ d∧cQ d≤65536 then cQ d else 3000),.int .i64 (if 100≤cF d∧cF d≤65536 then cF d else 15000),.int .i64 100,.int .i64 50,.int .u64 10000000000,.int .u64 0,.bool false,.int .i64 100000,.int .i64 1000]) (λy:Bool=>y=decide (1≤cL d∧cL d≤512)) (λy w hy h=>?_) ?_
   ·rw[hy];refine ae (λc=>?_) λc=>?_
    ·have c:=bJ c;refine aj h rfl (az h n4 [.int .i64 (if 100≤cQ d∧cQ d≤65536 then cQ d else 3000),.int .i64 (if 100≤cF d∧cF d≤65536 then cF d else 15000),.int .i64 (if 1≤cL d∧cL d≤512 then cL d else 100),.int .i64 50,.int .u64 10000000000,.int .u64 0,.bool false,.int .i64 100000,.int .i64 1000] rfl rfl (by rw[aC c];rfl) λw h=>⟨trivial,h.aG⟩)
    ·have c:=bQ c;have h:=h.du (b:=n4) (L':=[.int .i64 (if 100≤cQ d∧cQ d≤65536 then cQ d else 3000),.int .i64 (if 100≤cF d∧cF d≤65536 then cF d else 15000),.int .i64 (if 1≤cL d∧cL d≤512 then cL d else 100),.int .i64 50,.int .u64 10000000000,.int .u64 0,.bool false,.int .i64 100000,.int .i64 1000]) (by rw[ay c]);exact⟨trivial,h.aG⟩
   ·refine aj h rfl (ae (λc=>aj h rfl ⟨?_,h.aG⟩) λc=>⟨?_,h.aG⟩)
    ·have c:cL d≥1:=bV;show decide (cL d≤512)=_;rw[wj];exact⟨λx=>⟨c,x⟩,λx=>x.2⟩
    ·have c:¬cL d≥1:=bV;exact(mZ λx=>c x.1).symm
  rintro-w-h;refine aK h (λ_:Unit=>ah n1 (Ks.mk KC d)^ah n2 zC^ah n4 [.int .i64 (if 100≤cQ d∧cQ d≤65536 then cQ d else 3000),.int .i64 (if 100≤cF d∧cF d≤65536 then cF d else 15000),.int .i64 (if 1≤cL d∧cL d≤512 then cL d else 100),.int .i64 (if 1≤cW d∧cW d≤512 then cW d else 50),.int .u64 10000000000,.int .u64 0,.bool false,.int .i64 100000,.int .i64 1000]) (λ_=>True) ?_ ?_;rotate_left
  ·refine aK h (λ_:Bool=>ah n1 (Ks.mk KC d)^ah n2 zC^ah n4 [.int .i64 (if 100≤cQ d∧cQ d≤65536 then cQ d else 3000),.int .i64 (if 100≤cF d∧cF d≤65536 then cF d else 15000),.int .i64 (if 1≤cL d∧cL d≤512 then cL d else 100),.int .i64 50,.int .u64 10000000000,.int .u64 0,.bool false,.int .i64 100000,.int .i64 1000]) (λy:Bool=>y=decide (1≤cW d∧cW d≤512)) (λy w hy h=>?_) ?_
   ·rw[hy];refine ae (λc=>?_) λc=>?_
    ·have c:=bJ c;refine aj h rfl (az h n4 [.int .i64 (if 100≤cQ d∧cQ d≤65536 then cQ d else 3000),.int .i64 (if 100≤cF d∧cF d≤65536 then cF d else 15000),.int .i64 (if 1≤cL d∧cL d≤512 then cL d else 100),.int .i64 (if 1≤cW d∧cW d≤512 then cW d else 50),.int .u64 10000000000,.int .u64 0,.bool false,.int .i64 100000,.int .i64 1000] rfl rfl (by rw[aC c];rfl) λw h=>⟨trivial,h.aG⟩)
    ·have c:=bQ c;have h:=h.du (b:=n4) (L':=[.int .i64 (if 100≤cQ d∧cQ d≤65536 then cQ d else 3000),.int .i64 (if 100≤cF d∧cF d≤65536 then cF d else 15000),.int .i64 (if 1≤cL d∧cL d≤512 then cL d else 100),.int .i64 (if 1≤cW d∧cW d≤512 then cW d else 50),.int .u64 10000000000,.int .u64 0,.bool false,.int .i64 100000,.int .i64 1000]) (by rw[ay c]);exact⟨trivial,h.aG⟩
   ·refine aj h rfl (ae (λc=>aj h rfl ⟨?_,h.aG⟩) λc=>⟨?_,h.aG⟩)
    ·have c:cW d≥1:=bV;show decide (cW d≤512)=_;rw[wj];exact⟨λx=>⟨c,x⟩,λx=>x.2⟩
    ·have c:¬cW d≥1:=bV;exact(mZ λx=>c x.1).symm
  rintro-w-h;refine aK h (λ_:Unit=>ah n1 (Ks.mk KC d)^ah n2 zC^ah n4 [.int .i64 (if 100≤cQ d∧cQ d≤65536 then cQ d else 3000),.int .i64 (if 100≤cF d∧cF d≤65536 then cF d else 15000),.int .i64 (if 1≤cL d∧cL d≤512 then cL d else 100),.int .i64 (if 1≤cW d∧cW d≤512 then cW d else 50),.int .u64 (if cH d≤4611686018427387904 then cH d else 10000000000),.int .u64 0,.bool false,.int .i64 100000,.int .i64 1000]) (λ_=>True) ?_ ?_;rotate_left
  ·refine aj h rfl (ae (λc=>?_) λc=>?_)
   ·have c:cH d≤4611686018427387904:=bV;refine aj h rfl (az h n4 [.int .i64 (if 100≤cQ d∧cQ d≤65536 then cQ d else 3000),.int .i64 (if 100≤cF d∧cF d≤65536 then cF d else 15000),.int .i64 (if 1≤cL d∧cL d≤512 then cL d else 100),.int .i64 (if 1≤cW d∧cW d≤512 then cW d else 50),.int .u64 (if cH d≤4611686018427387904 then cH d else 10000000000),.int .u64 0,.bool false,.int .i64 100000,.int .i64 1000] rfl rfl (by rw[aC c];rfl) λw h=>⟨trivial,h.aG⟩)
   ·have c:¬cH d≤4611686018427387904:=bV;have h:=h.du (b:=n4) (L':=[.int .i64 (if 100≤cQ d∧cQ d≤65536 then cQ d else 3000),.int .i64 (if 100≤cF d∧cF d≤65536 then cF d else 15000),.int .i64 (if 1≤cL d∧cL d≤512 then cL d else 100),.int .i64 (if 1≤cW d∧cW d≤512 then cW d else 50),.int .u64 (if cH d≤4611686018427387904 then cH d else 10000000000),.int .u64 0,.bool false,.int .i64 100000,.int .i64 1000]) (by rw[ay c]);exact⟨trivial,h.aG⟩
  rintro-w-h;refine aK h (λ_:Unit=>ah n1 (Ks.mk KC d)^ah n2 zC^ah n4 [.int .i64 (if 100≤cQ d∧cQ d≤65536 then cQ d else 3000),.int .i64 (if 100≤cF d∧cF d≤65536 then cF d else 15000),.int .i64 (if 1≤cL d∧cL d≤512 then cL d else 100),.int .i64 (if 1≤cW d∧cW d≤512 then cW d else 50),.int .u64 (if cH d≤4611686018427387904 then cH d else 10000000000),.int .u64 0,.bool false,.int .i64 (if 1≤dM d∧dM d≤1073741824 then dM d else 100000),.int .i64 1000]) (λ_=>True) ?_ ?_;rotate_left
  ·refine aK h (λ_:Bool=>ah n1 (Ks.mk KC d)^ah n2 zC^ah n4 [.int .i64 (if 100≤cQ d∧cQ d≤65536 then cQ d else 3000),.int .i64 (if 100≤cF d∧cF d≤65536 then cF d else 15000),.int .i64 (if 1≤cL d∧cL d≤512 then cL d else 100),.int .i64 (if 1≤cW d∧cW d≤512 then cW d else 50),.int .u64 (if cH d≤4611686018427387904 then cH d else 10000000000),.int .u64 0,.bool false,.int .i64 100000,.int .i64 1000]) (λy:Bool=>y=decide (1≤dM d∧dM d≤1073741824)) (λy w hy h=>?_) ?_
   ·rw[hy];refine ae (λc=>?_) λc=>?_
    ·have c:=bJ c;refine aj h rfl (az h n4 [.int .i64 (if 100≤cQ d∧cQ d≤65536 then cQ d else 3000),.int .i64 (if 100≤cF d∧cF d≤65536 then cF d else 15000),.int .i64 (if 1≤cL d∧cL d≤512 then cL d else 100),.int .i64 (if 1≤cW d∧cW d≤512 then cW d else 50),.int .u64 (if cH d≤4611686018427387904 then cH d else 10000000000),.int .u64 0,.bool false,.int .i64 (if 1≤dM d∧dM d≤1073741824 then dM d else 100000),.int .i64 1000] rfl rfl (by rw[aC c];rfl) λw h=>⟨trivial,h.aG⟩)
    ·have c:=bQ c;have h:=h.du (b:=n4) (L':=[.int .i64 (if 100≤cQ d∧cQ d≤65536 then cQ d else 3000),.int .i64 (if 100≤cF d∧cF d≤65536 then cF d else 15000),.int .i64 (if 1≤cL d∧cL d≤512 then cL d else 100),.int .i64 (if 1≤cW d∧cW d≤512 then cW d else 50),.int .u64 (if cH d≤4611686018427387904 then cH d else 10000000000),.int .u64 0,.bool false,.int .i64 (if 1≤dM d∧dM d≤1073741824 then dM d else 100000),.int .i64 1000]) (by rw[ay c]);exact⟨trivial,h.aG⟩
   ·refine aj h rfl (ae (λc=>aj h rfl ⟨?_,h.aG⟩) λc=>⟨?_,h.aG⟩)
    ·have c:dM d≥1:=bV;show decide (dM d≤1073741824)=_;rw[wj];exact⟨λx=>⟨c,x⟩,λx=>x.2⟩
    ·have c:¬dM d≥1:=bV;exact(mZ λx=>c x.1).symm
  rintro-w-h;refine aK h (λ_:Unit=>ah n1 (Ks.mk KC d)^ah n2 zC^ah n4 [.int .i64 (if 100≤cQ d∧cQ d≤65536 then cQ d else 3000),.int .i64 (if 100≤cF d∧cF d≤65536 then cF d else 15000),.int .i64 (if 1≤cL d∧cL d≤512 then cL d else 100),.int .i64 (if 1≤cW d∧cW d≤512 then cW d else 50),.int .u64 (if cH d≤4611686018427387904 then cH d else 10000000000),.int .u64 0,.bool false,.int .i64 (if 1≤dM d∧dM d≤1073741824 then dM d else 100000),.int .i64 (if 100≤eF d∧eF d≤9000 then eF d else 1000)]) (λ_=>True) ?_ ?_;rotate_left
  ·refine aK h (λ_:Bool=>ah n1 (Ks.mk KC d)^ah n2 zC^ah n4 [.int .i64 (if 100≤cQ d∧cQ d≤65536 then cQ d else 3000),.int .i64 (if 100≤cF d∧cF d≤65536 then cF d else 15000),.int .i64 (if 1≤cL d∧cL d≤512 then cL d else 100),.int .i64 (if 1≤cW d∧cW d≤512 then cW d else 50),.int .u64 (if cH d≤4611686018427387904 then cH d else 10000000000),.int .u64 0,.bool false,.int .i64 (if 1≤dM d∧dM d≤1073741824 then dM d else 100000),.int .i64 1000]) (λy:Bool=>y=decide (100≤eF d∧eF d≤9000)) (λy w hy h=>?_) ?_
   ·rw[hy];refine ae (λc=>?_) λc=>?_
    ·have c:=bJ c;refine aj h rfl (az h n4 [.int .i64 (if 100≤cQ d∧cQ d≤65536 then cQ d else 3000),.int .i64 (if 100≤cF d∧cF d≤65536 then cF d else 15000),.int .i64 (if 1≤cL d∧cL d≤512 then cL d else 100),.int .i64 (if 1≤cW d∧cW d≤512 then cW d else 50),.int .u64 (if cH d≤4611686018427387904 then cH d else 10000000000),.int .u64 0,.bool false,.int .i64 (if 1≤dM d∧dM d≤1073741824 then dM d else 100000),.int .i64 (if 100≤eF d∧eF d≤9000 then eF d else 1000)] rfl rfl (by rw[aC c];rfl) λw h=>⟨trivial,h.aG⟩)
    ·have c:=bQ c;have h:=h.du (b:=n4) (L':=[.int .i64 (if 100≤cQ d∧cQ d≤65536 then cQ d else 3000),.int .i64 (if 100≤cF d∧cF d≤65536 then cF d else 15000),.int .i64 (if 1≤cL d∧cL d≤512 then cL d else 100),.int .i64 (if 1≤cW d∧cW d≤512 then cW d else 50),.int .u64 (if cH d≤4611686018427387904 then cH d else 10000000000),.int .u64 0,.bool false,.int .i64 (if 1≤dM d∧dM d≤1073741824 then dM d else 100000),.int .i64 (if 100≤eF d∧eF d≤9000 then eF d else 1000)]) (by rw[ay c]);exact⟨trivial,h.aG⟩
   ·refine aj h rfl (ae (λc=>aj h rfl ⟨?_,h.aG⟩) λc=>⟨?_,h.aG⟩)
    ·have c:eF d≥100:=bV;show decide (eF d≤9000)=_;rw[wj];exact⟨λx=>⟨c,x⟩,λx=>x.2⟩
    ·have c:¬eF d≥100:=bV;exact(mZ λx=>c x.1).symm
  rintro-w-h;refine aH h λw h=>aj h rfl (aj h rfl (az h n4 [.int .i64 (if 100≤cQ d∧cQ d≤65536 then cQ d else 3000),.int .i64 (if 100≤cF d∧cF d≤65536 then cF d else 15000),.int .i64 (if 1≤cL d∧cL d≤512 then cL d else 100),.int .i64 (if 1≤cW d∧cW d≤512 then cW d else 50),.int .u64 (if cH d≤4611686018427387904 then cH d else 10000000000),.int .u64 (cR d),.bool false,.int .i64 (if 1≤dM d∧dM d≤1073741824 then dM d else 100000),.int .i64 (if 100≤eF d∧eF d≤9000 then eF d else 1000)] rfl rfl rfl λw h=>aI h rfl (az h n4 [.int .i64 (if 100≤cQ d∧cQ d≤65536 then cQ d else 3000),.int .i64 (if 100≤cF d∧cF d≤65536 then cF d else 15000),.int .i64 (if 1≤cL d∧cL d≤512 then cL d else 100),.int .i64 (if 1≤cW d∧cW d≤512 then cW d else 50),.int .u64 (if cH d≤4611686018427387904 then cH d else 10000000000),.int .u64 (cR d),.bool (cD d),.int .i64 (if 1≤dM d∧dM d≤1073741824 then dM d else 100000),.int .i64 (if 100≤eF d∧eF d≤9000 then eF d else 1000)] rfl rfl rfl λw h=>?_)));refine ar (b:=n4) (x:=nb d) h rfl (aw h (by rfl) λw h=>ar (b:=n2) (x:=nb d) h rfl ?_);exact au.aE rfl h.fV
theorem Fw(d:Cf):may (nb d)=true:=by
 unfold may nb;simp only[fG,gK];refine⟨?_,?_,?_,?_,?_,?_,?_⟩<;>dsimp only[cQ,cF,cL,cW,cH,dM,eF]<;>split<;>omega
theorem IR{d:Cf}(h0:0≤cH d)(hr:U (cR d)):Af (nb d):=yJ (Fw d) (by unfold nb;dsimp only[cH];split<;>(try assumption);omega) hr
theorem Wb{n:Int}(h:(Lit.int .u64 n).wf=true):U n:=by
 have h:IntKind.u64.min≤n∧n≤IntKind.u64.max:=by simpa [Lit.wf]using h
 have e1:IntKind.u64.min=0:=by decide
 have e2:IntKind.u64.max=18446744073709551615:=by decide
 unfold U;omega
theorem T2{d:Cf}(h:∀k n,Lf.int k n∈Ks.mk KC d→(Lit.int k n).wf=true):0≤cH d∧U (cR d):=
 ⟨(Wb (h .u64 (cH d) (kQ (i:=4) rfl))).1,Wb (h .u64 (cR d) (kQ (i:=5) rfl))⟩
end EU

namespace JY
open bB bi ff _root_.Go.X.Tree iy kj lp fg lK lV C7 wP wR ET EU
def one(c:Cf)(i:Nat)(f:Fl)(lv:LV)(ks:List Key):Qm:=⟨c,jT (λ_=>none) i (some f),lv,ks,f.sg.length⟩
theorem Lb{v:Qm}{ao:Int}(h:∀k∈v.ks,¬k.1≤ao):oN v ao=v:=by
 have h1:v.ks.takeWhile (λk=>decide (k.1≤ao))=[]:=by
  cases e:v.ks with
  |nil=>rfl
  |cons k l=>rw[zr,ay (by have:=h k (by rw[e];simp);simpa using this)]
 have h2:v.ks.dropWhile (λk=>decide (k.1≤ao))=v.ks:=by
  cases e:v.ks with
  |nil=>rfl
  |cons k l=>rw[Gc,ay (by have:=h k (by rw[e];simp);simpa using this)]
 show(⟨v.c,v.fl,(v.lv.1,v.lv.2++(io v ao).map Prod.snd),v.ks.dropWhile _,v.n⟩:Qm)=v;unfold io;rw[h1,h2];simp
def Vz(ao:Int)(rates:List Int)(u:Qm):Option Sg×Qm:=lA ao rates (mu u+1) u
theorem TJ(v:Qm)(ao:Int)(rates:List Int):jw v ao rates=Vz ao rates (oN v ao):=rfl
end JY

namespace JS
open bB bi ff _root_.Go.X.Tree iy kj lp fg lK lV C7 wP wR ET EU JY
abbrev l0:LV:=([((0:Nat):Int)],[])
theorem K9{v:Qm}(hv:iQ v){ao:Int}(hn:U ao){rates:List Int}(hr:∀x∈rates,U x):iQ (jw v ao rates).2:=by
 rw[TJ];unfold Vz
 suffices ∀k u,iQ u→iQ (lA ao rates k u).2 from this _ _ (hv.due ao)
 intro k
 induction k with
 |zero=>intro u hu;exact hu
 |succ k ih=>
  intro u hu;cases hh:(bM u.lv).2.2 with
  |false=>rw[yy hh];exact hu
  |true=>
   have hmm:=kO hh;have hx:=hu.lv.2 _ hmm;obtain⟨i,hi⟩:∃i:Nat,(bM u.lv).1=(i:Int):=⟨(bM u.lv).1.toNat,by omega⟩;obtain⟨f,hf⟩:=hu.th i (by rw[hi]at hmm;exact hmm);have hA:xw u i f:=⟨hu,hi,hh,hf⟩;rw[yx hA];by_cases c:f.cr≤0
   ·rw[aC c];exact ih _ (hA.Fy c)
   ·rw[ay c];cases hs:f.sg with
    |nil=>
     simp only;split
     ·exact ih _ hA.back
     ·rw[←hs];exact ih _ (hA.B_ hs hn)
    |cons s l=>
     simp only;split
     ·exact ih _ (hA.wait (by rw[hs];simp)).1
     ·have hF:=(hu.fl i f hf).2;exact hA.VV hs (by omega) hn (om (by have:=(hF.sg s (by rw[hs];simp)).2.ln;omega) (BC (BD hr i) hu.cf.r))
end JS

end Go.X
