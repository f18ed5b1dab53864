/- Contracts. -/
import Derived.Test.YtniflenfpbbikaaGreatDoorB2
set_option linter.all false
set_option autoImplicit true
set_option relaxedAutoImplicit true
namespace Go.X
open IntKind (u64 i64)
open Go.Proofs
namespace Ps
open bK bp f_ _root_.Go.X.Tree jE lM mV fh lJ mh F9 Ea yp A3 Pr Lb
def rO(u v:Qm):Prop:=∀i,(v.fl i).map (λf=>(f.nx,f.sg))=(u.fl i).map λf=>(f.nx,f.sg)
theorem rO.Yv(u):rO u u:=λ_=>rfl
theorem rO.trans(h:rO a b)(g:rO b c):rO a c:=λi=>(g i).trans (h i)
theorem rO.to(h:rO u v)(hf:u.fl i=some f):∃g,v.fl i=some g∧g.nx=f.nx∧g.sg=f.sg∧cC g=cC f:=by
 have:=h i;rw[hf]at this;cases hg:v.fl i with
 |none=>rw[hg]at this;cases this
 |some g=>
  rw[hg]at this;simp only[rf,nJ,DA]at this;refine⟨g,rfl,this.1,this.2,?_⟩;unfold cC;rw[this.1,this.2]
theorem I6(hf:u.fl i=some f)(h1:g.nx=f.nx)(h2:g.sg=f.sg)(lv ks):rO u {u with fl:=jK u.fl i (some g),lv:=lv,ks:=ks}:=λj=>by
 show(jK u.fl i (some g) j).map _=_;by_cases e:j=i
 ·rw[e,co,hf];simp[h1,h2]
 ·rw[ec _ _ e]
structure YT(af:Int)(u v:Qm):Prop where
 ok:iM v
 same:rO u v
 late:∀k∈v.ks,k.1>af
 c:v.c=u.c
 n:v.n=u.n
structure Kept(P:Qm→Prop)(af:Int):Prop where
 w8:∀{u i f},tx u i f→f.cr≤0→P u→P {u with fl:=jK u.fl i (some {f with cr:=f.cr+cQ u.c}),lv:=(eO u.lv).2}
 back:∀{u i f},tx u i f→f.cr>0→f.sg=[]→(bP u.lv).2.1=true∧u.lv.2≠[]→P u→P {u with lv:=(eO u.lv).2}
 drop:∀{u i f},tx u i f→f.cr>0→f.sg=[]→¬((bP u.lv).2.1=true∧u.lv.2≠[])→P u→P {u with lv:=(cj u.lv).2,fl:=jK u.fl i (some {f with si:=af})}
 wait:∀{u i f},tx u i f→f.cr>0→f.sg≠[]→cC f>af→P u→P {u with lv:=(cj u.lv).2,ks:=lZ u.ks (cC f,(i:Int))}
theorem KV{af:Int}{rates:List Int}(P)(hP:Kept P af)(hn:U af)(hr:∀x∈rates,U x):∀(k:Nat) (u:Qm),mu u<k→iM u→(∀x∈u.ks,x.1>af)→P u→
  ∃v,(YT af u v∧P v)∧(((bP v.lv).2.2=false∧jW af rates k u=(none,v))∨∃i f s l,tx v i f∧f.cr>0∧f.sg=s::l∧cC f≤af∧jW af rates k u=(some s,dP v i f s af (gg rates i))):=by
 intro k
 induction k with
 |zero=>intro u h;omega
 |succ k ih=>
  intro u hk hu hl hp;cases hh:(bP u.lv).2.2 with
  |false=>exact⟨u,⟨⟨hu,rO.Yv u,hl,rfl,rfl⟩,hp⟩,.inl ⟨hh,vE hh _ _ _⟩⟩
  |true=>
   have hmm:=kp hh;have hx:=hu.lv.2 _ hmm;obtain⟨i,hi⟩:∃i:Nat,(bP u.lv).1=(i:Int):=⟨(bP u.lv).1.toNat,by omega⟩;obtain⟨f,hf⟩:=hu.th i (by rw[hi]at hmm;exact hmm);have hA:tx u i f:=⟨hu,hi,hh,hf⟩;rw[vD hA];have go:∀u':Qm,iM u'→mu u'<mu u→rO u u'→(∀x∈u'.ks,x.1>af)→u'.c=u.c→u'.n=u.n→P u'→
     ∃v,(YT af u v∧P v)∧(((bP v.lv).2.2=false∧jW af rates k u'=(none,v))∨∃i f s l,tx v i f∧f.cr>0∧f.sg=s::l∧cC f≤af∧jW af rates k u'=(some s,dP v i f s af (gg rates i))):=λu' h1 h2 h3 h4 h5 h6 h7=>by
    obtain⟨v,⟨hv,hv2⟩,h⟩:=ih u' (by omega) h1 h4 h7;exact⟨v,⟨⟨hv.ok,h3.trans hv.same,hv.late,hv.c.trans h5,hv.n.trans h6⟩,hv2⟩,h⟩
   by_cases c:f.cr≤0
   ·rw[aF c];exact go _ (hA.w8 c) (qE hA c) (I6 (g:={f with cr:=f.cr+cQ u.c}) hf rfl rfl _ _) hl rfl rfl (hP.w8 hA c hp)
   ·rw[aw c];cases hs:f.sg with
    |nil=>
     simp only;split
     ·rename_i c2;exact go _ hA.back (ue hA c2.1) (λ_=>rfl) hl rfl rfl (hP.back hA (by omega) hs c2 hp)
     ·rename_i c2;rw[←hs];exact go _ (hA.yA hs hn) (mH hA _ _) (I6 (g:={f with si:=af}) hf rfl rfl _ _) hl rfl rfl (hP.drop hA (by omega) hs c2 hp)
    |cons s l=>
     simp only;split
     ·rename_i c2;have hmu:=mH hA (some f) (lZ u.ks (cC f,(i:Int)));rw[DV hA.fl]at hmu;refine go _ (hA.wait (by rw[hs];simp)).1 hmu (λ_=>rfl) (λx hx=>?_) rfl rfl (hP.wait hA (by omega) (by rw[hs];simp) c2 hp);rcases(Fp _ _ _).1 hx with rfl|hx
      ·exact c2
      ·exact hl x hx
     ·rename_i c2;exact⟨u,⟨⟨hu,rO.Yv u,hl,rfl,rfl⟩,hp⟩,.inr ⟨i,f,s,l,hA,by omega,hs,by omega,rfl⟩⟩
theorem Mu(hv:iM v)(af:Int):∀k∈(mW v af).ks,k.1>af:=by
 have:∀{ks:List Key},yP ks→∀k∈ks.dropWhile (λk=>decide (k.1≤af)),k.1>af:=λ{ks}=>by
  induction ks with
  |nil=>intro _ k hk;cases hk
  |cons a l ih=>
   intro hs k hk;rw[Dm]at hk;split at hk
   ·exact ih (ra.1 hs).2 k hk
   ·rename_i c;have c:a.1>af:=cS;rcases dY.1 hk with rfl|hk
    ·exact c
    ·have:=(ra.1 hs).1 k hk;rw[o_]at this;omega
 exact this hv.wH
theorem aaq{v:Qm}(P:Qm→Prop)(hv:iM v){af:Int}(hP:Kept P af)(hn:U af){rates:List Int}(hr:∀x∈rates,U x)(hp:P (mW v af)):
  ∃u,(YT af v u∧P u)∧(((bP u.lv).2.2=false∧gU v af rates=(none,u))∨∃i f s l,tx u i f∧f.cr>0∧f.sg=s::l∧cC f≤af∧gU v af rates=(some s,dP u i f s af (gg rates i))):=by
 obtain⟨u,⟨h1,h3⟩,h2⟩:=KV P hP hn hr (mu (mW v af)+1) (mW v af) (xw _) (hv.due af) (Mu hv af) hp;exact⟨u,⟨⟨h1.ok,(show rO v (mW v af)from λ_=>rfl).trans h1.same,h1.late,h1.c,h1.n⟩,h3⟩,h2⟩
theorem ran(hv:iM v){af:Int}(hn:U af){rates:List Int}(hr:∀x∈rates,U x):
  ∃u,YT af v u∧(((bP u.lv).2.2=false∧gU v af rates=(none,u))∨∃i f s l,tx u i f∧f.cr>0∧f.sg=s::l∧cC f≤af∧gU v af rates=(some s,dP u i f s af (gg rates i))):=by
 obtain⟨u,⟨h1,_⟩,h2⟩:=aaq (λ_=>True) hv ⟨λ_ _ _=>trivial,λ_ _ _ _ _=>trivial,λ_ _ _ _ _=>trivial,λ_ _ _ _ _=>trivial⟩ hn hr trivial;exact⟨u,h1,h2⟩
end Ps

namespace Tq
open bK bp f_ _root_.Go.X.Tree jE lM mV fh lJ mh F9 Ea yp A3 Pr Lb Ps
abbrev KD:Ks:=[.int .i64,.int .u64,.int .i64,.int .u64,.int .i64,.int .u64,.bool,.sl,.int .i64,.int .i64,.int .i64,.int .i64,.int .u64,.int .u64,.bool,.int .i64,.int .i64,.bool]
abbrev DD:=Ks.T KD
abbrev dG(d:DD):Int:=d.2.1
abbrev dS(d:DD):Sg:=(d.2.2.1,d.2.2.2.1,d.2.2.2.2.1,d.2.2.2.2.2.1,d.2.2.2.2.2.2.1)
abbrev dR(d:DD):Sl:=d.2.2.2.2.2.2.2.1
abbrev dC(d:DD):Cf:=(d.2.2.2.2.2.2.2.2.1,d.2.2.2.2.2.2.2.2.2.1,d.2.2.2.2.2.2.2.2.2.2.1,d.2.2.2.2.2.2.2.2.2.2.2.1,d.2.2.2.2.2.2.2.2.2.2.2.2.1,d.2.2.2.2.2.2.2.2.2.2.2.2.2.1,d.2.2.2.2.2.2.2.2.2.2.2.2.2.2.1,d.2.2.2.2.2.2.2.2.2.2.2.2.2.2.2.1,d.2.2.2.2.2.2.2.2.2.2.2.2.2.2.2.2.1)
abbrev OpD:=DD×List Int
structure H_(p:OpD):Prop where
 g:U (dG p.1)
 s:U (RR (dS p.1))∧U (uZ (dS p.1))
 c:0≤cH (dC p.1)∧U (cR (dC p.1))
 r:∀y∈p.2,U y
theorem rP(g x l):bx (Gl g) (bg^aZ g.2.2.2.2.2 KS (x::l)) (λr=>br (r=if uZ x>g.2.2.2.1 then uZ x else g.2.2.2.1) bg):=
 bF λw0 S R h=>by
  refine aD h λn1 w h=>aM h λw h=>aj h rfl (aj h rfl ?_);refine bT (s:=g.2.2.2.2.2) h (by decide) (by simp) ?_;refine eh h g.2.2.2.2.2 0 3 x rfl rfl (by decide) rfl ?_;exact au.aH rfl h.h_
end Tq

namespace FqT
open bK bp f_ _root_.Go.X.Tree jE lM mV fh lJ mh F9 Ea yp A3 Pr Lb Ps Tq
def gY(g:Nat→List Int)(i:Nat)(x:List Int):Nat→List Int:=λj=>if j=i then x else g j
abbrev sL(s:Nat→Sl):List Lf:=[aX (s 0),aX (s 1),aX (s 2),aX (s 3),aX (s 4),aX (s 5),aX (s 6),aX (s 7)]
section
variable {w0 w:World} {S0 R0:Nat→Prop} {F G:SP}
end
end FqT

namespace fg
abbrev Pc:=Ks.T aE
def kT(b:Nat)(v:List Pc×Int):SP:=ex λs=>ah b [aX s,aC v.2]^aQ s aE v.1
abbrev Pw:=Ks.T cy
def uE(f t:Int)(s:Pw):Pc:=(f,t,s.1,s.2.1,s.2.2.1,s.2.2.2.1,s.2.2.2.2,false,false)
def dP(v:List Pc×Int)(f t:Int)(s:Pw):Int×(List Pc×Int):=
 if f≠v.2∨t≤f then(1,v)else if 4096≤v.1.length then(5,v)else(0,(v.1++[uE f t s],t))
instance(b:Nat)(v:List Pc×Int):nt (kT b v):=by unfold kT;infer_instance
theorem _root_.Go.X.au.kT{v:List Pc×Int}(h:au w0 S0 R0 w F)(b)[t:ou fg.kT b F v G]:∃s,au w0 S0 R0 w (ah b [aX s,aC v.2]^aQ s aE v.1^G):=by
 obtain⟨s,h⟩:=(h.le t.le).lS;exact⟨s,h.le (bS _ _ _)⟩
theorem _root_.Go.X.au.pf(h:au w0 S0 R0 w F)(b s l)(e:Int)[t:Take (ah b [aX s,aC e]^aQ s aE l) F G]:au w0 S0 R0 w (fg.kT b (l,e)^G):=
 (h.le t.le).tH (f:=λs=>ah b [aX s,aC e]^aQ s aE l) s
theorem ku:bx TM bg (λr=>ex λb=>br (r=some ⟨b,0⟩) (kT b ([],0))):=
 bF λw S R h=>by
  refine aD h λn1 w h=>?_;exact au.gI n1 (au.aH rfl ((h.nil aE).pf n1 ⟨none,0,0⟩ [] 0).bq)
theorem sG(b)(f t:Int)(s)(v:List Pc×Int):
  bx (Ew (some ⟨b,0⟩) f t s) (kT b v)
   (λr=>br (r=(dP v f t s).1) (kT b (dP v f t s).2)):=
 bF λw S R h=>by
  refine aD h λn1 w h=>?_;refine ae (by simp) λ_=>?_;obtain⟨sl,h⟩:=h.kT b;have hlen:=(h.rd (s:=sl)).2;refine ac (aj h rfl ?_);refine ae (λhc=>?_) λhc=>?_
  ·have e1:dP v f t s=(1,v):=(by simp at hc;simp[dP,hc]);rw[e1];exact au.aH rfl (h.pf b sl v.1 v.2).bq
  ·refine ac (aj h rfl ?_);refine ae (λhc2=>?_) λhc2=>?_
   ·have e1:dP v f t s=(5,v):=by
     simp at hc hc2;rw[dP,aw (by omega),aF (by omega)]
    rw[e1];exact au.aH rfl (h.pf b sl v.1 v.2).bq
   ·have e1:dP v f t s=(0,(v.1++[uE f t s],t)):=by
     simp at hc hc2;rw[dP,aw (by omega),aw (by omega)]
    rw[e1];refine aM h λw h=>?_;refine aj h rfl ?_;refine ac (aj h rfl ?_);refine aD h λn9 w h=>?_;refine aN h rfl ?_;have h:=h.ct n9 aE [uE f t s] rfl (by simp);refine dF h rfl (by simp at hc2⊢;omega) λs10 w hl h=>?_;refine ac (be h rfl λw h=>?_);dsimp only[dE,over]at h;refine ac (be h rfl λw h=>?_);dsimp only[dE,over]at h;exact au.aH rfl (h.pf b s10 (v.1++[uE f t s]) t).bq
theorem DJ(s f C xs p)(hl:xs.length≤4294967296)(hf:∀x∈xs,Ba Tryz.prog f [.agg (Ks.mk KR x)] [.lf .bool] C (λr=>br (r=p x) C)):
  bx (Vp s f) (C^aZ s KR xs) (λr=>br (r=fI p xs) C):=
 bF λw S R h=>by
  have hsl:=(h.rd (s:=s)).2;refine cZ (λ_=>C^aZ s KR xs) (λ(y:Int)=>0≤y∧y.toNat≤xs.length∧∀j y',j<y.toNat→xs[j]?=some y'→p y'=false) (λ(y:Int)=>xs.length-y.toNat) h ⟨ig 0,by simp,λj _ hj=>by simp at hj⟩ ?_;rintro(y:Int) w ⟨h0,h1,h2⟩ h;refine ae (λc=>?_) λc=>?_
  ·have hy:y.toNat<xs.length:=(by simp at c;omega);refine bT h h0 hy ?_;refine eh h s y.toNat 0 _ (bV hy) rfl (by decide) (Jg (ks:=KR)) ?_;refine qU (hf _ (xv hy)) h λr w h=>?_;obtain⟨hr,h⟩:=h.aP;have hw:i64.wrap (y+1)=y+1:=fu;refine ae (λc=>?_) λc=>?_
   ·refine au.aH ?_ h.aK;rw[EM (bV hy) (by rw[←hr];exact c) h2];exact(Aa h0).symm
   ·rw[hw];refine⟨⟨⟨(by show(0:Int)≤y+1;omega),(by show(y+1).toNat≤_;omega),λj y' hj hy'=>?_⟩,h⟩,(by show _-(y+1).toNat<_;omega)⟩;have hj:j<(y+1).toNat:=hj;by_cases hjy:j=y.toNat
    ·subst hjy;rw[bV hy]at hy';cases hy';rw[←hr];exact c
    ·exact h2 j y' (by omega) hy'
  ·refine au.aH ?_ h.aK;rw[vr];intro x hx;obtain⟨j,hj,rfl⟩:=B6.1 hx;refine h2 j _ ?_ (bV hj);simp at c;omega
theorem ri(s f C xs p)(hl:xs.length≤4294967296)(hf:∀x∈xs,Ba Tryz.prog f [.agg (Ks.mk KR x)] [.lf .bool] C (λr=>br (r=p x) C)):
  bx (Qq s f) (C^aZ s KR xs) (λr=>br (r=xs.any p) C):=
 bF λw S R h=>by
  refine aI (DJ s f C xs p hl hf) h λw h=>?_;exact au.aH (MC p xs) h.bq
def vL(n:Nat):Fv:=.mk (.func hY) [] [V1.enc (.lf (.ptr (some ⟨n,0⟩)))]
theorem jh(b):bx (Qr (some ⟨b,0⟩)) bg (λf=>ex λn=>br (f=vL n) (ah n [.ptr (some ⟨b,0⟩)])):=
 bF λw S R h=>by
  refine aD h λn1 w h=>?_;exact au.gI n1 (au.aH rfl h.bq)
theorem lN(n b)(v:List Pc×Int)(hl:v.1.length≤4294967296):Iter Tryz.prog (vL n) (ah n [.ptr (some ⟨b,0⟩)]^kT b v) [.agg aE] v.1:=by
 intro y I D hy;refine wF.g (f:=hY) (args:=[.lf (.fn y)]) (caps:=[.lf (.ptr (some ⟨n,0⟩))]) (bF (c:=Vw y ⟨n,0⟩) λw S R h=>?_);refine aj h rfl ?_;refine ae (λc=>(by cases c)) λc=>?_;refine aj h rfl ?_;obtain⟨s,h⟩:=h.kT b;have hs:=(h.rd (s:=s)).2;refine ac (aj h rfl ?_);have h:au _ _ _ _ (ah b [aX s,aC v.2]^aQ s aE v.1^ah n [.ptr (some ⟨b,0⟩)]^I 0):=h.aK;refine cZ (λ(y:Int)=>ah b [aX s,aC v.2]^aQ s aE v.1^ah n [.ptr (some ⟨b,0⟩)]^I y.toNat) (λ(y:Int)=>0≤y∧y.toNat≤v.1.length) (λ(y:Int)=>v.1.length-y.toNat) h ⟨ig 0,by simp⟩ ?_;rintro(i:Int) w ⟨h0,h1⟩ h;refine ae (λc=>?_) λc=>?_
 ·have hi:i.toNat<v.1.length:=by simp at c;omega
  refine bT h h0 hi ?_;refine eE h s i.toNat (bV hi) rfl ?_;refine aD h λn9 w h=>?_;refine aA h (by rfl) λw h=>?_;refine ay h rfl ?_;refine qU (hy i.toNat _ (bV hi)) h λr w h=>?_;refine ae (λc=>?_) λc=>?_
  ·have hr:r=false:=cS;rw[hr]at h;have h:au _ _ _ _ (D^_):=h;have h:=(h.yu (I v.1.length)).pf b s v.1 v.2;exact h.aK
  ·have hr:r=true:=cS;rw[hr]at h;have h:au _ _ _ _ (I (i.toNat+1)^_):=h;rw[fu];have e:(i+1).toNat=i.toNat+1:=(by omega);refine⟨⟨⟨(by show(0:Int)≤i+1;omega),(by show(i+1).toNat≤_;omega)⟩,?_⟩,(by show _-(i+1).toNat<_;omega)⟩;show au _ _ _ _ (ah b [aX s,aC v.2]^aQ s aE v.1^ah n [.ptr (some ⟨b,0⟩)]^I (i+1).toNat);rw[e];exact h.aK
 ·have hi:i.toNat=v.1.length:=by simp at c;omega
  rw[hi]at h;have h:=h.take (I v.1.length);have h:=(h.vg D).pf b s v.1 v.2;exact h.aK
abbrev jc(p:Pc):Int:=p.1
abbrev x5(p:Pc):Int:=p.2.1
abbrev yC(p:Pc):Bool:=p.2.2.2.2.2.2.2.1
abbrev jP(p:Pc):Bool:=p.2.2.2.2.2.2.2.2
def lE(p:Pc):Bool:=!yC p&&!jP p
theorem uo(p):bx (L4 p) bg (λr=>br (r=lE p) bg):=
 bF λw S R h=>by
  refine aD h λn1 w h=>?_;refine aj h rfl ?_;refine ae (λc=>?_) λc=>?_
  ·refine aj h rfl ?_;refine au.aH ?_ h.aK;show(!jP p)=lE p;have c:(!yC p)=true:=c;simp[lE,c]
  ·refine au.aH ?_ h.aK;have c:(!yC p)=false:=c;simp[lE,c]
def uc(n:Int)(p:Pc):Int:=if lE p then u64.wrap (n+u64.wrap (x5 p-jc p))else n
def dD(l:List Pc):Int:=l.foldl uc 0
theorem oZ{l:List Pc}{i:Nat}{x:Pc}(h:l[i]?=some x):dD (l.take (i+1))=uc (dD (l.take i)) x:=by rw[lC,h];simp[dD]
theorem GF(b)(v:List Pc×Int)(hl:v.1.length≤4294967296):bx (US (some ⟨b,0⟩)) (kT b v) (λr=>br (r=dD v.1) (kT b v)):=
 Tg λw S R h=>by
  refine aD h λn1 w h=>?_;refine be h rfl λw h=>?_;dsimp only[dE,over]at h;refine aq (jh b) (h.le (aG _)) λf w h=>?_;obtain⟨n,h⟩:=h.lS;obtain⟨hf,h⟩:=h.aP;rw[hf];have h:=h.take (ah n1 [aC 0]);have h:au _ _ _ _ (ah n1 [aC (dD (v.1.take 0))]^_):=h;refine pr (lN n b v hl) (λi=>ah n1 [aC (dD (v.1.take i))]) (λ_=>br False bg) h ?_ ?_ ?_
  ·intro i x hx w S R BX next jump rdy bsy hmid hnext hjump h
   refine aD h λn7 w h=>?_;refine aA h (by rfl) λw h=>?_;refine hmid h λw h=>?_;refine ay h rfl ?_;refine aq (uo x) h λr w h=>?_;obtain⟨hr,h⟩:=h.aP;refine ae (λc=>?_) λc=>?_
   ·refine aj h rfl ?_;refine aj h rfl ?_;refine aj h rfl ?_;refine be h rfl λw h=>?_;dsimp only[dE,over]at h;have e:dD (v.1.take (i+1))=u64.wrap (dD (v.1.take i)+u64.wrap (x5 x-jc x)):=by rw[oZ hx,uc,aF (by rw[←hr];exact c)]
    rw[←e]at h;exact hnext h
   ·have e:dD (v.1.take (i+1))=dD (v.1.take i):=(by rw[oZ hx,uc,aw (by rw[←hr,c];simp)]);rw[←e]at h;exact hnext h
  ·intro w h;have h:=h.take (ah n1 [aC (dD (v.1.take v.1.length))]);refine aj h rfl ?_;refine aV h λw h=>?_;rw[sC];exact au.aH rfl h.aK
  ·intro j w hj h;exact(h.take (br False bg)).aP.1.elim
def dI(e:Int)(r:Int×Int):Bool:=decide (r.2>e)||decide (r.1≥r.2)
theorem Nh(r:Int×Int)(n b)(v:List Pc×Int):bx (XN r ⟨n,0⟩) (ah n [.ptr (some ⟨b,0⟩)]^kT b v) (λx=>br (x=dI v.2 r) (ah n [.ptr (some ⟨b,0⟩)]^kT b v)):=
 bF λw S R h=>by
  refine aD h λn1 w h=>?_;refine aM h λw h=>?_;refine aj h rfl ?_;refine aj h rfl ?_;obtain⟨s,h⟩:=h.kT b;refine ac (aj h rfl ?_);have h:=h.pf b s v.1 v.2;refine ae (λc=>?_) λc=>?_
  ·refine au.aH ?_ h.aK;simp at c;simp[dI,c]
  ·refine aj h rfl ?_;refine aj h rfl ?_;refine au.aH ?_ h.aK;simp at c;simp[dI];intro;omega
def uC(v:List Pc×Int)(upto:Int)(xs:List (Int×Int)):Bool:=decide (upto≤v.2)&&!xs.any (dI v.2)
theorem nT(b)(v:List Pc×Int)(upto:Int)(s xs)(hl:xs.length≤4294967296):
  bx (UK (some ⟨b,0⟩) upto s) (kT b v^aZ s KR xs) (λx=>br (x=uC v upto xs) (kT b v)):=
 bF λw S R h=>by
  refine aD h λn1 w h=>?_;refine aj h rfl ?_;obtain⟨s',h⟩:=h.kT b;refine ac (aj h rfl ?_);have h:=h.pf b s' v.1 v.2;refine ae (λc=>?_) λc=>?_
  ·refine aq (ri s _ (ah n1 [.ptr (some ⟨b,0⟩)]^kT b v) xs (dI v.2) hl (λx _=>(wF.g (f:=mR) (args:=[.agg (Ks.mk KR x)]) (caps:=[.lf (.ptr (some ⟨n1,0⟩))]) (Nh x n1 b v)).v)) h λr w h=>?_;obtain⟨hr,h⟩:=h.aP;refine au.aH ?_ h.aK;simp at c;simp[uC,c,hr]
  ·refine au.aH ?_ h.aK;simp at c;simp[uC];intro;omega
def tL(p:Pc)(r:Int×Int):Bool:=decide (r.1≤p.1)&&decide (r.2≥p.2.1)
theorem GJ(r:Int×Int)(n p):bx (XO r ⟨n,0⟩) (ah n (Ks.mk aE p)) (λx=>br (x=tL p r) (ah n (Ks.mk aE p))):=
 bF λw S R h=>by
  refine aD h λn1 w h=>?_;refine aj h rfl ?_;refine aj h rfl ?_;refine ae (λc=>?_) λc=>?_
  ·refine aj h rfl ?_;refine aj h rfl ?_;refine au.aH ?_ h.aK;simp at c;simp[tL,c]
  ·refine au.aH ?_ h.aK;simp at c;simp[tL];intro;omega
theorem J3(p s xs)(hl:xs.length≤4294967296):
  bx (UL s p) (bg^aZ s KR xs) (λx=>br (x=xs.any (tL p)) bg):=
 bF λw S R h=>by
  refine aD h λn1 w h=>?_;refine aq (ri s _ (ah n1 (Ks.mk aE p)) xs (tL p) hl (λx _=>(wF.g (f:=pP) (args:=[.agg (Ks.mk KR x)]) (caps:=[.lf (.ptr (some ⟨n1,0⟩))]) (GJ x n1 p)).v)) h λr w h=>?_;obtain⟨hr,h⟩:=h.aP;exact au.aH hr h.aK
def iG(p:Pc)(x:Bool):Pc:=(p.1,p.2.1,p.2.2.1,p.2.2.2.1,p.2.2.2.2.1,p.2.2.2.2.2.1,p.2.2.2.2.2.2.1,p.2.2.2.2.2.2.2.1,x)
def yS(p:Pc)(a:Int):Int:=if yC p then i64.wrap (a+1)else a
def xg(p:Pc)(a:Int):Bool:=lE p&&decide (yS p a≥3)
def cI:List Pc→List Pc×Int×Int
 |[]=>([],0,0)
 |p::l=>let r:=cI l
  (if xg p r.2.2 then iG p true::r.1 else p::r.1,if xg p r.2.2 then u64.wrap (r.2.1+u64.wrap (p.2.1-p.1))else r.2.1,yS p r.2.2)
theorem Fh:∀l:List Pc,(cI l).1.length=l.length
 |[]=>rfl
 |p::l=>by simp only[cI];split<;>simp[Fh l]
theorem GY(b)(v:List Pc×Int)(hl:v.1.length≤4294967296):
  bx (UM (some ⟨b,0⟩)) (kT b v) (λx=>br (x=(cI v.1).2.1) (kT b ((cI v.1).1,v.2))):=
 bF λw S R h=>by
  obtain⟨s,h⟩:=(h.le (aG _)).kT b;have hs:=(h.rd (s:=s)).2;refine ac (aj h rfl ?_);rw[wi (n:=((s.len:Nat):Int)-1) (by omega) (by omega)];have e0:v.1.take (((s.len:Nat):Int)-1+1).toNat++(cI (v.1.drop (((s.len:Nat):Int)-1+1).toNat)).1=v.1:=by
   have e:(((s.len:Nat):Int)-1+1).toNat=v.1.length:=(by omega);rw[e];simp[cI]
  have e1:cI (v.1.drop (((s.len:Nat):Int)-1+1).toNat)=([],0,0):=by
   have e:(((s.len:Nat):Int)-1+1).toNat=v.1.length:=(by omega);rw[e];simp[cI]
  have h:=h.take (ah b [aX s,aC v.2]^aQ s aE v.1);have h:=h.bq;refine cZ (λ(y:Int×Int×Int)=>ah b [aX s,aC v.2]^aQ s aE (v.1.take (y.2.2+1).toNat++(cI (v.1.drop (y.2.2+1).toNat)).1))
   (λ(y:Int×Int×Int)=>(-1≤y.2.2∧y.2.2<v.1.length)∧y.1=(cI (v.1.drop (y.2.2+1).toNat)).2.1∧y.2.1=(cI (v.1.drop (y.2.2+1).toNat)).2.2) (λ(y:Int×Int×Int)=>(y.2.2+1).toNat) (by rw[e0];exact h) ⟨⟨by show(-1:Int)≤_-1;omega,by show((s.len:Nat):Int)-1<_;omega⟩,by rw[e1],by rw[e1]⟩ ?_
  rintro(⟨bn,above,i⟩:Int×Int×Int) w ⟨⟨h0,h1⟩,h2,h3⟩ h;dsimp only at h0 h1 h2 h3 h⊢;refine ae (λc=>?_) λc=>?_
  ·have c:0≤i:=cS;obtain⟨k,hk⟩:∃k:Nat,i=k:=⟨i.toNat,by omega⟩;have hk1:(i+1).toNat=k+1:=(by omega);have hk0:i.toNat=k:=(by omega);have hkl:k<v.1.length:=(by omega);rw[hk1]at h2 h3 h;obtain⟨p,hp⟩:∃p,v.1[k]?=some p:=⟨_,bV hkl⟩;have hd:=qG hp;obtain⟨xs,hxs⟩:∃xs,xs=v.1.take (k+1)++(cI (v.1.drop (k+1))).1:=⟨_,rfl⟩;have hxk:xs[i.toNat]?=some p:=(by rw[hk0,hxs,pk (by rw[fU];omega),pn,aF (by omega),hp]);have hxl:i.toNat<xs.length:=(ie.1 hxk).1;rw[←hxs]at h;have hpass:cI (v.1.drop k)=(if xg p above then iG p true::(cI (v.1.drop (k+1))).1 else p::(cI (v.1.drop (k+1))).1,if xg p above then u64.wrap (bn+u64.wrap (p.2.1-p.1))else bn,yS p above):=(by rw[hd,cI,h2,h3]);refine ac (aj h rfl ?_);refine bT h c hxl ?_;refine aS h (λ_=>ah b [aX s,aC v.2]^aQ s aE xs) (λ(y:Int)=>y=yS p above) (λ(y:Int) w hy h=>?_) ?_
   ·refine ac (eE h s i.toNat hxk rfl ?_);refine aq (uo p) h λr w h=>?_;obtain⟨hr,h⟩:=h.aP;have hw:i64.wrap (i-1)=i-1:=fu;have hhit:(r&&decide (y≥3))=xg p above:=by rw[hr,hy];rfl
    have hk2:(i-1+1).toNat=k:=(by omega);have ht:v.1.take (k+1)=v.1.take k++[p]:=(by rw[lC,hp];rfl);have hlt:(v.1.take k).length=k:=(by rw[fU];omega);refine ae (λc2=>?_) λc2=>?_
    ·rw[hhit]at c2;rw[c2]at hpass;simp only[iF]at hpass;refine ac (mE h s i.toNat 8 p (iG p true) hxk rfl (by decide) (by simp) rfl λw h=>?_);have hset:xs.set i.toNat (iG p true)=v.1.take k++(cI (v.1.drop k)).1:=by
      rw[hpass,hxs,hk0,ht,iD,G9 _ _ (by omega),hlt];simp
     have hx2:(xs.set i.toNat (iG p true))[i.toNat]?=some (iG p true):=(by rw[sB hxl]);refine aM h λw h=>?_;refine ac (ac ?_);refine eh h s i.toNat 1 _ hx2 rfl (by decide) rfl ?_;refine eh h s i.toNat 0 _ hx2 rfl (by decide) rfl ?_;rw[hw];refine⟨⟨⟨⟨by show(-1:Int)≤i-1;omega,by show i-1<_;omega⟩,?_,?_⟩,?_⟩,by show(i-1+1).toNat<(i+1).toNat;omega⟩
     ·show _=(cI (v.1.drop (i-1+1).toNat)).2.1;rw[hk2,hpass];rfl
     ·show y=(cI (v.1.drop (i-1+1).toNat)).2.2;rw[hk2,hpass];exact hy
     ·show au _ _ _ _ (ah b [aX s,aC v.2]^aQ s aE (v.1.take (i-1+1).toNat++(cI (v.1.drop (i-1+1).toNat)).1));rw[hk2,←hset];exact h.aK
    ·rw[hhit]at c2;rw[c2]at hpass;simp only[js,jt]at hpass;rw[hw];have hsame:xs=v.1.take k++(cI (v.1.drop k)).1:=by rw[hpass,hxs,ht];simp
     refine⟨⟨⟨⟨by show(-1:Int)≤i-1;omega,by show i-1<_;omega⟩,?_,?_⟩,?_⟩,by show(i-1+1).toNat<(i+1).toNat;omega⟩
     ·show _=(cI (v.1.drop (i-1+1).toNat)).2.1;rw[hk2,hpass]
     ·show y=(cI (v.1.drop (i-1+1).toNat)).2.2;rw[hk2,hpass];exact hy
     ·show au _ _ _ _ (ah b [aX s,aC v.2]^aQ s aE (v.1.take (i-1+1).toNat++(cI (v.1.drop (i-1+1).toNat)).1));rw[hk2,←hsame];exact h.aK
   ·refine ac (eh h s i.toNat 7 p hxk rfl (by decide) rfl ?_);refine ae (λc2=>?_) λc2=>?_
    ·exact⟨by have c2:yC p=true:=c2;simp[yS,c2],h⟩
    ·exact⟨by have c2:yC p=false:=c2;simp[yS,c2],h⟩
  ·have c:i=-1:=(by simp at c;omega);rw[c]at h2 h3 h;simp only[show((-1:Int)+1).toNat=0 from rfl,vX,Dy,po]at h2 h;refine au.aH h2 ?_;exact(h.pf b s (cI v.1).1 v.2).aK
def yd(p:Pc):Pc:=(p.1,p.2.1,p.2.2.1,p.2.2.2.1,p.2.2.2.2.1,p.2.2.2.2.2.1,p.2.2.2.2.2.2.1,true,false)
def sI(upto:Int)(xs:List (Int×Int))(p:Pc):Bool:=!yC p&&(decide (p.2.1≤upto)||xs.any (tL p))
def pe(upto:Int)(xs:List (Int×Int))(p:Pc):Pc:=if sI upto xs p then yd p else p
def fM(upto:Int)(xs:List (Int×Int))(l:List Pc):List Pc:=l.filter (sI upto xs)
def eR(upto:Int)(xs:List (Int×Int))(l:List Pc):List Pc:=(l.filter (λp=>!decide (p.2.1≤upto))).map (pe upto xs)
theorem AN{upto:Int}{xs:List (Int×Int)}{l:List Pc}{k:Nat}{p:Pc}(h:l[k]?=some p):fM upto xs (l.take (k+1))=fM upto xs (l.take k)++(if sI upto xs p then [p]else []):=by
 rw[lC,h,fM,Dp,fM];congr 1;simp[Ag]
theorem AC{upto:Int}{xs:List (Int×Int)}{l:List Pc}{k:Nat}{p:Pc}(h:l[k]?=some p):eR upto xs (l.take (k+1))=eR upto xs (l.take k)++(if p.2.1≤upto then []else [pe upto xs p]):=by
 rw[lC,h,eR,Dp,mA,eR];congr 1;by_cases hc:p.2.1≤upto<;>simp[hc]
theorem Ci(upto:Int)(xs:List (Int×Int))(l:List Pc)(k:Nat):(fM upto xs (l.take k)).length≤k:=kH (FB _ _) (by rw[fU];omega)
theorem qy(upto:Int)(xs:List (Int×Int))(l:List Pc)(k:Nat):(eR upto xs (l.take k)).length≤k:=by rw[eR,fy];exact kH (FB _ _) (by rw[fU];omega)
theorem El(b)(v:List Pc×Int)(upto:Int)(s xs)(hx:xs.length≤4294967296)(hm:uC v upto xs=false):
  bx (P6 (some ⟨b,0⟩) upto s) (kT b v^aZ s KR xs) (λr=>br (r.1=⟨none,0,0⟩∧r.2.1=0∧r.2.2=11) (kT b v)):=
 bF λw S R h=>by
  refine ae (λc=>(by cases c)) λc=>?_;refine bR (nT b v upto s xs hx) h λr w h=>?_;obtain⟨hr,h⟩:=h.aP;refine ae (λc=>?_) λc=>?_
  ·exact au.aH ⟨rfl,rfl,rfl⟩ h.aK
  ·rw[hr,hm]at c;cases c
theorem PF(b)(v:List Pc×Int)(upto:Int)(a xs)(hl:v.1.length≤4294967295)(hx:xs.length≤4294967296)(hm:uC v upto xs=true):
  bx (P6 (some ⟨b,0⟩) upto a) (kT b v^aZ a KR xs)
   (λr=>br (r.2.1=(cI (eR upto xs v.1)).2.1∧r.2.2=0) (aQ r.1 aE (fM upto xs v.1)^kT b ((cI (eR upto xs v.1)).1,v.2))):=
 bF λw S R h=>by
  refine ae (λc=>(by cases c)) λc=>?_;refine bR (Q:=aZ a KR xs) (nT b v upto a xs hx) h λr w h=>?_;obtain⟨hr,h⟩:=h.aP;refine ae (λc=>by rw[hr,hm]at c;cases c) λc=>?_;obtain⟨s,h⟩:=h.kT b;have hs:=(h.rd (s:=s)).2;refine ac (aj h rfl ?_);have h:=(h.nil aE);have h:=(h.nil aE);have h:=(h.take (ah b [aX s,aC v.2]^aQ s aE v.1^aQ ⟨none,0,0⟩ aE []^aQ ⟨none,0,0⟩ aE []^aZ a KR xs)).bq;refine cZ (λ(y:Sl×Sl×Int)=>ah b [aX s,aC v.2]^aQ s aE v.1^aQ y.1 aE (fM upto xs (v.1.take y.2.2.toNat))^aQ y.2.1 aE (eR upto xs (v.1.take y.2.2.toNat))^aZ a KR xs)
   (λ(y:Sl×Sl×Int)=>0≤y.2.2∧y.2.2.toNat≤v.1.length) (λ(y:Sl×Sl×Int)=>v.1.length-y.2.2.toNat) h ⟨ig 0,iW _⟩ ?_
  rintro(⟨ts,rs,i⟩:Sl×Sl×Int) w ⟨h0,h1⟩ h;dsimp only at h0 h1 h⊢;refine ae (λc=>?_) λc=>?_
  ·have hi:i.toNat<v.1.length:=(by simp at c;omega);obtain⟨p,hp⟩:∃p,v.1[i.toNat]?=some p:=⟨_,bV hi⟩;have ht:=AN (upto:=upto) (xs:=xs) hp;have hrt:=AC (upto:=upto) (xs:=xs) hp;have hw:i64.wrap (i+1)=i+1:=fu;have hi1:(i+1).toNat=i.toNat+1:=(by omega);refine bT h h0 hi ?_;refine eE h s i.toNat hp rfl ?_;refine aD h λn8 w h=>?_;refine aA h (by rfl) λw h=>?_;refine aj h rfl ?_;refine aS h (λ(y:Sl)=>ah n8 (Ks.mk aE (pe upto xs p))^ah b [aX s,aC v.2]^aQ s aE v.1^aQ y aE (fM upto xs (v.1.take (i.toNat+1)))^aQ rs aE (eR upto xs (v.1.take i.toNat))^aZ a KR xs) (λ_=>True) (λ(y:Sl) w _ h=>?_) ?_
   ·refine ae (λc2=>?_) λc2=>?_
    ·have c2:p.2.1≤upto:=gJ;rw[hw];rw[aF c2,qw]at hrt;refine⟨⟨⟨by show(0:Int)≤i+1;omega,by show(i+1).toNat≤_;omega⟩,?_⟩,by show _-(i+1).toNat<_;omega⟩;show au _ _ _ _ (ah b [aX s,aC v.2]^aQ s aE v.1^aQ y aE (fM upto xs (v.1.take (i+1).toNat))^aQ rs aE (eR upto xs (v.1.take (i+1).toNat))^aZ a KR xs);rw[hi1,hrt];exact h.aK
    ·have c2:¬p.2.1≤upto:=gJ;rw[aw c2]at hrt;refine ay h rfl ?_;refine aD h λn21 w h=>?_;have h:=h.ct n21 aE [pe upto xs p] rfl (by simp);have hlr:=qy upto xs v.1 i.toNat;refine dF (K:=aE) h rfl (by simp;omega) λs22 w hl2 h=>?_;rw[hw];refine⟨⟨⟨by show(0:Int)≤i+1;omega,by show(i+1).toNat≤_;omega⟩,?_⟩,by show _-(i+1).toNat<_;omega⟩;show au _ _ _ _ (ah b [aX s,aC v.2]^aQ s aE v.1^aQ y aE (fM upto xs (v.1.take (i+1).toNat))^aQ s22 aE (eR upto xs (v.1.take (i+1).toNat))^aZ a KR xs);rw[hi1,hrt];exact h.aK
   ·refine aS h (λ_=>ah n8 (Ks.mk aE p)^ah b [aX s,aC v.2]^aQ s aE v.1^aQ ts aE (fM upto xs (v.1.take i.toNat))^aQ rs aE (eR upto xs (v.1.take i.toNat))^aZ a KR xs) (λ(y:Bool)=>y=sI upto xs p) (λ(y:Bool) w hy h=>?_) ?_
    ·refine ae (λc2=>?_) λc2=>?_
     ·rw[c2]at hy;rw[←hy,aF rfl]at ht;have hmk:pe upto xs p=yd p:=by rw[pe,←hy];rfl
      refine ay h rfl ?_;refine aD h λn18 w h=>?_;have h:=h.ct n18 aE [p] rfl (by simp);have hlr:=Ci upto xs v.1 i.toNat;refine dF (K:=aE) h rfl (by simp;omega) λs19 w hl2 h=>?_;refine be h rfl λw h=>?_;refine be h rfl λw h=>?_;refine⟨trivial,?_⟩;rw[ht,hmk];have h:au _ _ _ _ (ah n8 (Ks.mk aE (yd p))^_):=h;exact h.aK
     ·rw[c2]at hy;rw[←hy]at ht;have hmk:pe upto xs p=p:=by rw[pe,←hy];rfl
      refine⟨trivial,?_⟩;rw[ht,hmk];simp only[js,jt,qw];exact h.aK
    ·refine aj h rfl ?_;refine ae (λc2=>?_) λc2=>?_
     ·have c2:(!yC p)=true:=c2;refine ae (λc3=>?_) λc3=>?_
      ·exact⟨by have c3:decide (p.2.1≤upto)=true:=c3;simp[sI,c2,c3],h.aK⟩
      ·refine ay h rfl ?_;refine bR (A:=bg) (Q:=aZ a KR xs) (J3 p a xs hx) h λr w h=>?_;obtain⟨hr2,h⟩:=h.aP;exact⟨by have c3:decide (p.2.1≤upto)=false:=c3;rw[hr2,sI,c2,c3];simp,h.aK⟩
     ·exact⟨by have c2:(!yC p)=false:=c2;simp[sI,c2],h.aK⟩
  ·have hi:i.toNat=v.1.length:=(by simp at c;omega);rw[hi,sC]at h;refine ac (be h rfl λw h=>?_);dsimp only[dE,over]at h;have h:=h.pf b rs (eR upto xs v.1) v.2;have hrl:(eR upto xs v.1).length≤4294967296:=by
    have:=qy upto xs v.1 v.1.length;rw[sC]at this;omega
   refine aq (GY b (eR upto xs v.1,v.2) hrl) h λr w h=>?_;obtain⟨hr2,h⟩:=h.aP;exact au.aH ⟨hr2,rfl⟩ h.aK
abbrev s0:Pw:=(0,0,0,0,false)
def pK(z:Int)(k:Nat):Pc:=uE ((k:Int)*z) (((k:Int)+1)*z) ((k:Int),0,0,0,false)
def c1(z y:Int):List (Int×Int):=[(z+1,2*z+y),(2*z+1,3*z)]
def c2(z y:Int):List (Int×Int):=[(z,2*z+y)]
abbrev q1(z:Int):Pc:=yd (pK z 1)
def fj(p:Pc):Pc:=if lE p then iG p true else p
theorem Nb(b)(v:List Pc×Int)(hl:v.1.length≤4294967296):bx (Ug (some ⟨b,0⟩)) (kT b v) (λr=>br (r=dD v.1) (kT b (v.1.map fj,v.2))):=
 bF λw S R h=>by
  refine ae (λc=>(by cases c)) λc=>?_;obtain⟨s,h⟩:=h.kT b;have hs:=(h.rd (s:=s)).2;refine ac (aj h rfl ?_);have h:=(h.take (ah b [aX s,aC v.2]^aQ s aE v.1)).bq;refine cZ (λ(y:Int×Int)=>ah b [aX s,aC v.2]^aQ s aE ((v.1.take y.2.toNat).map fj++v.1.drop y.2.toNat)) (λ(y:Int×Int)=>(0≤y.2∧y.2.toNat≤v.1.length)∧y.1=dD (v.1.take y.2.toNat)) (λ(y:Int×Int)=>v.1.length-y.2.toNat) h ⟨⟨ig 0,iW _⟩,rfl⟩ ?_;rintro(⟨t,i⟩:Int×Int) w ⟨⟨h0,h1⟩,h2⟩ h;dsimp only at h0 h1 h2 h⊢;obtain⟨xs,hxs⟩:∃xs,xs=(v.1.take i.toNat).map fj++v.1.drop i.toNat:=⟨_,rfl⟩;rw[←hxs]at h;have hxl:xs.length=v.1.length:=by rw[hxs];simp;omega
  refine ae (λc=>?_) λc=>?_
  ·have hi:i.toNat<v.1.length:=(by simp at c;omega);obtain⟨p,hp⟩:∃p,v.1[i.toNat]?=some p:=⟨_,bV hi⟩;have hml:((v.1.take i.toNat).map fj).length=i.toNat:=(by simp;omega);have hxp:xs[i.toNat]?=some p:=(by rw[hxs,tO (by omega),hml,qG hp];simp);have hw:i64.wrap (i+1)=i+1:=fu;have hi1:(i+1).toNat=i.toNat+1:=(by omega);have hset:(v.1.take (i.toNat+1)).map fj++v.1.drop (i.toNat+1)=xs.set i.toNat (fj p):=(by rw[hxs,G9 _ _ (by omega),hml,qG hp,lC,hp];simp);have hft:=oZ hp;refine bT h h0 (by omega) ?_;refine eE h s i.toNat hxp rfl ?_;refine aD h λn7 w h=>?_;refine aA h (by rfl) λw h=>?_;refine ay h rfl ?_;refine aq (uo p) h λr w h=>?_;obtain⟨hr,h⟩:=h.aP;refine ae (λc2=>?_) λc2=>?_
   ·have hf:lE p=true:=(by rw[←hr];exact c2);refine ac (aj h rfl ?_);refine bT h h0 (by omega) ?_;refine mE h s i.toNat 8 p (iG p true) hxp rfl (by decide) (by simp) rfl λw h=>?_;refine aj h rfl ?_;refine aj h rfl ?_;rw[hw];have hlp:fj p=iG p true:=(by rw[fj,aF hf]);refine⟨⟨⟨⟨by show(0:Int)≤i+1;omega,by show(i+1).toNat≤_;omega⟩,?_⟩,?_⟩,by show _-(i+1).toNat<_;omega⟩
    ·show _=dD (v.1.take (i+1).toNat);rw[hi1,hft,uc,aF hf,h2]
    ·show au _ _ _ _ (ah b [aX s,aC v.2]^aQ s aE ((v.1.take (i+1).toNat).map fj++v.1.drop (i+1).toNat));rw[hi1,hset,hlp];exact h.aK
   ·have hf:lE p=false:=(by rw[←hr];exact c2);rw[hw];have hlp:fj p=p:=(by rw[fj,aw (by rw[hf];simp)]);refine⟨⟨⟨⟨by show(0:Int)≤i+1;omega,by show(i+1).toNat≤_;omega⟩,?_⟩,?_⟩,by show _-(i+1).toNat<_;omega⟩
    ·show t=dD (v.1.take (i+1).toNat);rw[hi1,hft,uc,aw (by rw[hf];simp),h2]
    ·show au _ _ _ _ (ah b [aX s,aC v.2]^aQ s aE ((v.1.take (i+1).toNat).map fj++v.1.drop (i+1).toNat));have hself:xs.set i.toNat p=xs:=by
      obtain⟨hl2,he⟩:=ie.1 hxp;rw[←he];exact List.set_getElem_self hl2
     rw[hi1,hset,hlp,hself];exact h.aK
  ·have hi:i.toNat=v.1.length:=(by simp at c;omega);rw[hi]at h2 hxs;simp at hxs h2;rw[hxs]at h;exact au.aH h2 (h.pf b s (v.1.map fj) v.2).aK
theorem Nc(b)(v:List Pc×Int)(hl:v.1.length≤4294967296):bx (L5 (some ⟨b,0⟩)) (kT b v) (λr=>br (r=fI jP v.1) (kT b v)):=
 Tg λw S R h=>by
  refine aD h λn1 w h=>?_;refine aD h λn2 w h=>?_;refine be h rfl λw h=>?_;dsimp only[dE,over]at h;refine aq (jh b) (h.le (aG _)) λf w h=>?_;obtain⟨n,h⟩:=h.lS;obtain⟨hf,h⟩:=h.aP;rw[hf];have h:=(h.take (ah n1 [aJ 0]^ah n2 [aJ ((0:Nat):Int)])).je (p:=∀j y,j<0→v.1[j]?=some y→jP y=false) (λj y hj=>by omega);refine pr (lN n b v hl) (λi=>br (∀j y,j<i→v.1[j]?=some y→jP y=false) (ah n1 [aJ 0]^ah n2 [aJ (i:Int)])) (λj=>br (j=1) (ah n1 [aJ (fI jP v.1)])) h ?_ ?_ ?_
  ·intro i x hx w S R BX next jump rdy bsy hmid hnext hjump h
   have hi:i<v.1.length:=(ie.1 hx).1;refine aD h λn8 w h=>?_;refine aA h (by rfl) λw h=>?_;refine hmid h λw h=>?_;have h:=h.take (br (∀j y,j<i→v.1[j]?=some y→jP y=false) (ah n1 [aJ 0]^ah n2 [aJ (i:Int)]));obtain⟨hno,h⟩:=h.aP;refine aj h rfl ?_;refine ae (λc=>?_) λc=>?_
   ·refine aj h rfl ?_;refine be h rfl λw h=>?_;dsimp only[dE,over]at h;have e:fI jP v.1=(i:Int):=EM hx c hno;rw[←e]at h;have h:=(h.take (ah n1 [aJ (fI jP v.1)])).je (p:=1=1) rfl;exact hjump 1 (by decide) h
   ·refine aj h rfl ?_;refine be h rfl λw h=>?_;dsimp only[dE,over]at h;rw[fu]at h;have h:au _ _ _ _ (ah n2 [aJ ((i+1:Nat):Int)]^_):=h;have h:=(h.take (ah n1 [aJ 0]^ah n2 [aJ ((i+1:Nat):Int)])).je (p:=∀j y,j<i+1→v.1[j]?=some y→jP y=false) (λj y hj hy=>by
     by_cases hji:j=i
     ·rw[hji,hx]at hy;cases hy;exact c
     ·exact hno j y (by omega) hy)
    exact hnext h
  ·intro w h;have h:=h.take (br (∀j y,j<v.1.length→v.1[j]?=some y→jP y=false) (ah n1 [aJ 0]^ah n2 [aJ (v.1.length:Int)]));obtain⟨hno,h⟩:=h.aP;refine be h rfl λw h=>?_;dsimp only[dE,over]at h;refine aj h rfl ?_;refine aV h λw h=>?_;refine au.aH ?_ h.aK;rw[vr];intro y hy;obtain⟨j,hj,rfl⟩:=B6.1 hy;exact hno j _ hj (bV hj)
  ·intro j w hj h;have h:=h.take (br (j=1) (ah n1 [aJ (fI jP v.1)]));obtain⟨hj1,h⟩:=h.aP;rw[hj1];refine aj h rfl ?_;refine aV h λw h=>?_;exact au.aH rfl h.aK
theorem sU(h:0≤fI p xs):∃x,xs[(fI p xs).toNat]?=some x∧p x=true∧(fI p xs).toNat<xs.length∧((fI p xs).toNat:Int)=fI p xs:=by
 unfold fI at h⊢;cases hf:xs.findIdx? p with
 |none=>rw[hf]at h;simp at h
 |some i=>
  obtain⟨hl,hp,_⟩:=Fw.1 hf;exact⟨xs[i],by simp[hl],hp,by simpa using hl,by simp⟩
def bD(l:List Pc):(Int×Int)×Bool:=match l[(fI jP l).toNat]? with
 |some p=>if fI jP l<0 then((0,0),false)else((p.1,p.2.1),true)
 |none=>((0,0),false)
theorem sf(h:fI jP l<0):bD l=((0,0),false):=by
 unfold bD;split
 ·rw[aF h]
 ·rfl
theorem tb(h:0≤fI jP l)(hp:l[(fI jP l).toNat]?=some p):bD l=((p.1,p.2.1),true):=by
 unfold bD;rw[hp];simp only;rw[aw (by omega)]
theorem Ed(b)(v:List Pc×Int)(hl:v.1.length≤4294967296):bx (Qf (some ⟨b,0⟩)) (kT b v) (λr=>br (r=bD v.1) (kT b v)):=
 bF λw S R h=>by
  refine aD h λn1 w h=>?_;refine aI (Nc b v hl) h λw h=>?_;refine ae (λc=>?_) λc=>?_
  ·refine be h rfl λw h=>?_;dsimp only[dE,over]at h;refine ay (x:=(0,0)) h rfl ?_;exact au.aH (sf cS).symm h.aK
  ·have c:0≤fI jP v.1:=cS;obtain⟨p,hp,hpl,hlt,_⟩:=sU c;refine aM h λw h=>?_;obtain⟨s,h⟩:=h.kT b;refine ac (ac (aj h rfl (aj h rfl ?_)));refine bT h c hlt ?_;refine bT h c hlt ?_;refine eh h s _ 0 p hp rfl (by decide) rfl ?_;refine eh h s _ 1 p hp rfl (by decide) rfl ?_;refine be h rfl λw h=>?_;dsimp only[dE,over]at h;refine ay (x:=(p.1,p.2.1)) h rfl ?_;exact au.aH (tb c hp).symm (h.pf b s v.1 v.2).aK
theorem Jw(n b:Nat)(s:Sl)(v:List Pc×Int)(hl:v.1.length≤4294967296):Iter Tryz.prog (vL n) (ah n [.ptr (some ⟨b,0⟩)]^ah b [aX s,aC v.2]^aQ s aE v.1) [.agg aE] v.1:=by
 intro y I D hy;refine wF.g (f:=hY) (args:=[.lf (.fn y)]) (caps:=[.lf (.ptr (some ⟨n,0⟩))]) (bF (c:=Vw y ⟨n,0⟩) λw S R h=>?_);refine aj h rfl ?_;refine ae (λc=>(by cases c)) λc=>?_;refine aj h rfl ?_;have hs:=(h.rd (s:=s)).2;refine ac (aj h rfl ?_);have h:au _ _ _ _ (ah b [aX s,aC v.2]^aQ s aE v.1^ah n [.ptr (some ⟨b,0⟩)]^I 0):=h.aK;refine cZ (λ(y:Int)=>ah b [aX s,aC v.2]^aQ s aE v.1^ah n [.ptr (some ⟨b,0⟩)]^I y.toNat) (λ(y:Int)=>0≤y∧y.toNat≤v.1.length) (λ(y:Int)=>v.1.length-y.toNat) h ⟨ig 0,by simp⟩ ?_;rintro(i:Int) w ⟨h0,h1⟩ h;refine ae (λc=>?_) λc=>?_
 ·have hi:i.toNat<v.1.length:=by simp at c;omega
  refine bT h h0 hi ?_;refine eE h s i.toNat (bV hi) rfl ?_;refine aD h λn9 w h=>?_;refine aA h (by rfl) λw h=>?_;refine ay h rfl ?_;refine qU (hy i.toNat _ (bV hi)) h λr w h=>?_;refine ae (λc=>?_) λc=>?_
  ·have hr:r=false:=cS;rw[hr]at h;have h:au _ _ _ _ (D^_):=h;have h:=h.yu (I v.1.length);exact h.aK
  ·have hr:r=true:=cS;rw[hr]at h;have h:au _ _ _ _ (I (i.toNat+1)^_):=h;rw[fu];have e:(i+1).toNat=i.toNat+1:=(by omega);refine⟨⟨⟨(by show(0:Int)≤i+1;omega),(by show(i+1).toNat≤_;omega)⟩,?_⟩,(by show _-(i+1).toNat<_;omega)⟩;show au _ _ _ _ (ah b [aX s,aC v.2]^aQ s aE v.1^ah n [.ptr (some ⟨b,0⟩)]^I (i+1).toNat);rw[e];exact h.aK
 ·have hi:i.toNat=v.1.length:=by simp at c;omega
  rw[hi]at h;have h:=h.take (I v.1.length);have h:=h.vg D;exact h.aK
theorem Kc(b:Nat)(s:Sl)(v:List Pc×Int)(hl:v.1.length≤4294967296):bx (L5 (some ⟨b,0⟩)) (ah b [aX s,aC v.2]^aQ s aE v.1) (λr=>br (r=fI jP v.1) (ah b [aX s,aC v.2]^aQ s aE v.1)):=
 Tg λw S R h=>by
  refine aD h λn1 w h=>?_;refine aD h λn2 w h=>?_;refine be h rfl λw h=>?_;dsimp only[dE,over]at h;refine aq (jh b) (h.le (aG _)) λf w h=>?_;obtain⟨n,h⟩:=h.lS;obtain⟨hf,h⟩:=h.aP;rw[hf];have h:=(h.take (ah n1 [aJ 0]^ah n2 [aJ ((0:Nat):Int)])).je (p:=∀j y,j<0→v.1[j]?=some y→jP y=false) (λj y hj=>by omega);refine pr (Jw n b s v hl) (λi=>br (∀j y,j<i→v.1[j]?=some y→jP y=false) (ah n1 [aJ 0]^ah n2 [aJ (i:Int)])) (λj=>br (j=1) (ah n1 [aJ (fI jP v.1)])) h ?_ ?_ ?_
  ·intro i x hx w S R BX next jump rdy bsy hmid hnext hjump h
   have hi:i<v.1.length:=(ie.1 hx).1;refine aD h λn8 w h=>?_;refine aA h (by rfl) λw h=>?_;refine hmid h λw h=>?_;have h:=h.take (br (∀j y,j<i→v.1[j]?=some y→jP y=false) (ah n1 [aJ 0]^ah n2 [aJ (i:Int)]));obtain⟨hno,h⟩:=h.aP;refine aj h rfl ?_;refine ae (λc=>?_) λc=>?_
   ·refine aj h rfl ?_;refine be h rfl λw h=>?_;dsimp only[dE,over]at h;have e:fI jP v.1=(i:Int):=EM hx c hno;rw[←e]at h;have h:=(h.take (ah n1 [aJ (fI jP v.1)])).je (p:=1=1) rfl;exact hjump 1 (by decide) h
   ·refine aj h rfl ?_;refine be h rfl λw h=>?_;dsimp only[dE,over]at h;rw[fu]at h;have h:au _ _ _ _ (ah n2 [aJ ((i+1:Nat):Int)]^_):=h;have h:=(h.take (ah n1 [aJ 0]^ah n2 [aJ ((i+1:Nat):Int)])).je (p:=∀j y,j<i+1→v.1[j]?=some y→jP y=false) (λj y hj hy=>by
     by_cases hji:j=i
     ·rw[hji,hx]at hy;cases hy;exact c
     ·exact hno j y (by omega) hy)
    exact hnext h
  ·intro w h;have h:=h.take (br (∀j y,j<v.1.length→v.1[j]?=some y→jP y=false) (ah n1 [aJ 0]^ah n2 [aJ (v.1.length:Int)]));obtain⟨hno,h⟩:=h.aP;refine be h rfl λw h=>?_;dsimp only[dE,over]at h;refine aj h rfl ?_;refine aV h λw h=>?_;refine au.aH ?_ h.aK;rw[vr];intro y hy;obtain⟨j,hj,rfl⟩:=B6.1 hy;exact hno j _ hj (bV hj)
  ·intro j w hj h;have h:=h.take (br (j=1) (ah n1 [aJ (fI jP v.1)]));obtain⟨hj1,h⟩:=h.aP;rw[hj1];refine aj h rfl ?_;refine aV h λw h=>?_;exact au.aH rfl h.aK
def mG(p:Pc)(s:Pw):Pc:=(p.1,p.2.1,s.1,s.2.1,s.2.2.1,s.2.2.2.1,s.2.2.2.2,p.2.2.2.2.2.2.2.1,false)
def dJ(l:List Pc)(s:Pw):List Pc:=match l[(fI jP l).toNat]? with
 |some p=>if fI jP l<0 then l else l.set (fI jP l).toNat (mG p s)
 |none=>l
theorem Bt(b s)(v:List Pc×Int)(hl:v.1.length≤4294967296):bx (Eu (some ⟨b,0⟩) s) (kT b v) (λr=>br (r=bD v.1) (kT b (dJ v.1 s,v.2))):=
 bF λw S R h=>by
  refine aD h λn1 w h=>?_;refine aD h λn2 w h=>?_;refine aI (Ed b v hl) h λw h=>?_;refine aD h λn4 w h=>?_;refine aA h (by rfl) λw h=>?_;refine aS h (λ_=>ah n4 (Ks.mk KR (bD v.1).1)^ah n2 [aC 0,aC 0]^kT b (dJ v.1 s,v.2)) (λ_=>True) (λx w _ h=>?_) ?_
  ·refine ay h rfl ?_;refine aA h (by rfl) λw h=>?_;refine ay h rfl ?_;exact au.aH rfl h.aK
  ·by_cases c:0≤fI jP v.1
   ·obtain⟨p,hp,hpl,hlt,_⟩:=sU c;have he:=tb c hp;have ha:dJ v.1 s=v.1.set (fI jP v.1).toNat (mG p s):=by
     unfold dJ;rw[hp];simp only;rw[aw (by omega)]
    refine ae (λc2=>?_) λc2=>by rw[he]at c2;cases c2
    refine aM h λw h=>?_;obtain⟨sl,h⟩:=h.kT b;refine ac (aj h rfl ?_);refine aq (Kc b sl v hl) h λr9 w h=>?_;obtain⟨hr9,h⟩:=h.aP;rw[hr9];refine aN h rfl ?_;refine bT h c hlt ?_;refine aM h λw h=>?_;refine ay (x:=s) h rfl ?_;refine ac ?_;refine mE h sl (fI jP v.1).toNat 8 p (iG p false) hp rfl (by decide) (by simp) rfl λw h=>?_;refine aO h ?_;refine ac ?_;have hp2:(v.1.set (fI jP v.1).toNat (iG p false))[(fI jP v.1).toNat]?=some (iG p false):=by rw[sB hlt]
    refine mE h sl (fI jP v.1).toNat 2 (iG p false) (mG p s) hp2 rfl (by rw[Ks.len];decide) (by simp[Ks.mk]) rfl λw h=>?_;rw[Hr]at h;rw[ha];exact⟨trivial,(h.pf b sl (v.1.set (fI jP v.1).toNat (mG p s)) v.2).aK⟩
   ·have c:fI jP v.1<0:=(by omega);have he:=sf c;have ha:dJ v.1 s=v.1:=by
     unfold dJ;split
     ·rw[aF c]
     ·rfl
    refine ae (λc2=>by rw[he]at c2;cases c2) λc2=>?_;rw[ha];exact⟨trivial,h.aK⟩
theorem vz:∀(B:List Pc) (n:Int),(∀p∈B,lE p=false)→B.foldl uc n=n
 |[],_,_=>rfl
 |p::B,n,h=>by
  have hp:=h p na;rw[Ds,uc,aw (by rw[hp];simp)];exact vz B n (λq hq=>h q (mz _ hq))
def f1(i:Nat)(p:Pc):Pc:=match i with|0=>p|_=>yd p
def f2(_:Nat)(p:Pc):Pc:=yd p
theorem Kb(l:List Pc):dD (l.map fj)=0:=by
 rw[dD];refine vz _ 0 λp hp=>?_;obtain⟨q,_,rfl⟩:=ma.1 hp;rw[fj];split
 ·simp[lE,jP,iG]
 ·rename_i h;simpa using h
end fg

namespace Target
open bK bp
abbrev KP:Ks:=[.int .u64,.int .u64]
def Xc:Int→List (Int×Int)→Int
 |v,[]=>v
 |v,p::r=>if v=0 then v else Xc (qI v p.1 p.2) r
theorem OK(v:Int)(s:Sl)(ps:List (Int×Int))(hv:U v)(hp:∀p∈ps,U p.1∧U p.2)(hl:ps.length≤1000000):
  bx (Qd v s) (aQ s KP ps) (λr=>br (r=Xc v ps) (aQ s KP ps)):=
 bF λw0 S R h=>by
  have h:au w0 S R w0 (aQ s KP ps^bg):=h.le (aG _);have hs:=(h.rd (s:=s)).2;refine cZ (λ(_:Int×Int)=>aQ s KP ps^bg) (λ(y:Int×Int)=>((0≤y.2∧y.2≤ps.length)∧U y.1)∧Xc y.1 (ps.drop y.2.toNat)=Xc v ps) (λ(y:Int×Int)=>ps.length-y.2.toNat) h ⟨⟨⟨by simp,by simp⟩,hv⟩,rfl⟩ ?_;rintro(⟨n,i⟩:Int×Int) w ⟨⟨⟨h0,h1⟩,hn⟩,h2⟩ h;dsimp only at h0 h1 h2 hn h⊢;refine ae (λc=>?_) λc=>?_
  ·have hi:i.toNat<ps.length:=(by simp at c;omega);obtain⟨p,hpp⟩:∃p,ps[i.toNat]?=some p:=⟨_,bV hi⟩;have hU:=hp p (jr hpp);rw[qG hpp,Xc]at h2;refine bT h h0 hi (eE h s i.toNat hpp rfl ?_);refine aD h λn5 w h=>?_;refine aA h (by rfl) λw h=>?_;refine ae (λc2=>?_) λc2=>?_
   ·have c2:n=0:=gJ;rw[aF c2]at h2;exact au.aH h2 h.aK
   have c2:¬n=0:=gJ;rw[aw c2]at h2;have h:au w0 S R w (ah n5 [aC p.1,aC p.2]^aQ s KP ps^bg):=h;refine⟨by decide,aj h rfl ⟨by decide,aj h rfl ?_⟩⟩;refine aq (uD n p.1 p.2 hn hU.1 hU.2) h λr w h=>?_;obtain⟨hr,h⟩:=h.aP;rw[hr,fu (n:=i+1)];refine⟨⟨⟨⟨⟨by show 0≤i+1;omega,by show i+1≤_;omega⟩,yR hn hU.1 hU.2⟩,?_⟩,h.aK⟩,by show _-(i+1).toNat<_;omega⟩;show Xc (qI n p.1 p.2) (ps.drop (i+1).toNat)=_;rw[show(i+1).toNat=i.toNat+1 by omega];exact h2
  ·have hi:i.toNat=ps.length:=(by simp at c;omega);rw[hi,Hj]at h2;exact au.aH h2 h.aK
theorem Yj(b c:Int):qI 0 b c=0:=by unfold qI;simp
theorem v7(bw g:Int)(hb:U bw)(hg:U g):bx (P5 bw g) bg (λr=>br (r=As bw g) bg):=
 bF λw0 S R h=>by
  refine aD h λn1 w h=>?_;have h:=h.SC ⟨some ⟨n1,0⟩,1,1⟩ ⟨n1,0⟩ KP [(g,(256:Int))] rfl rfl (eM _) (by simp) (by simp) (λi hi=>by
   have:i<2:=hi
   match i with|0=>rfl|1=>rfl)
  refine aq (OK bw ⟨some ⟨n1,0⟩,1,1⟩ [(g,256)] hb (by intro p hp;rw[gH]at hp;rw[hp];exact⟨hg,bh _⟩) (by simp)) h λr w h=>?_;obtain⟨hr,h⟩:=h.aP;refine au.aH ?_ h.aK;rw[hr];show(if bw=0 then bw else qI bw g 256)=_;split
  ·rename_i h;rw[h,As,Yj]
  ·rfl
theorem Ih(bw bX g:Int)(hb:U bw)(hq:U bX)(hg:U g):bx (Qx bw bX g) bg (λr=>br (r=Cz bw bX g) bg):=
 bF λw0 S R h=>by
  refine aD h λn1 w h=>?_;have h:=h.SC ⟨some ⟨n1,0⟩,2,2⟩ ⟨n1,0⟩ KP [(bX,(1000000000:Int)),(g,(256:Int))] rfl rfl (eM _) (by simp) (by simp) (λi hi=>by
   have:i<4:=hi
   match i with|0=>rfl|1=>rfl|2=>rfl|3=>rfl)
  refine aq (OK bw ⟨some ⟨n1,0⟩,2,2⟩ [(bX,1000000000),(g,256)] hb (by
   intro p hp;simp only[dY,List.not_mem_nil,or_false]at hp;rcases hp with hp|hp<;>rw[hp]
   ·exact⟨hq,bh _⟩
   ·exact⟨hg,bh _⟩) (by simp)) h λr w h=>?_
  obtain⟨hr,h⟩:=h.aP;refine au.aH ?_ h.aK;rw[hr];show(if bw=0 then bw else if qI bw bX 1000000000=0 then qI bw bX 1000000000 else qI (qI bw bX 1000000000) g 256)=_;unfold Cz;split
  ·rename_i h;rw[h,Yj,Yj]
  ·split
   ·rename_i h;rw[h,Yj]
   ·rfl
theorem Sc(bw bX g tso bs:Int)(hb:U bw)(hq:U bX)(hg:U g)(ht:U tso)(hm:U bs):bx (Vu bw bX g tso bs) bg (λr=>br (r=Br bw bX g tso bs) bg):=
 bF λw0 S R h=>by
  refine ae (λc=>?_) λc=>?_
  ·repeat' (first
    |(refine aM h λw h=>?_)
    |(refine ac ?_)
    |(refine ay h rfl ?_)
    |(refine aj h rfl ?_)
    |(refine aO h ?_)
    |(refine aN h rfl ?_)
    |(refine aA h (by rfl) λw h=>?_)
    |(refine aD h λn w h=>?_)
    |(refine aV h λw h=>?_)
    |(refine be h rfl λw h=>?_;dsimp only[dE,over]at h)
    |(refine aq (uP 10 bs (bh _) hm) h λr w h=>?_;obtain⟨hr,h⟩:=h.aP;(try dsimp only at hr h);try rw[hr]))
   exact au.aH (by unfold Br;rw[aF (show bX=0 by simpa using c)]) h.aK
  ·repeat' (first
    |(refine aM h λw h=>?_)
    |(refine ac ?_)
    |(refine ay h rfl ?_)
    |(refine aj h rfl ?_)
    |(refine aO h ?_)
    |(refine aN h rfl ?_)
    |(refine aA h (by rfl) λw h=>?_)
    |(refine aD h λn w h=>?_)
    |(refine aV h λw h=>?_)
    |(refine be h rfl λw h=>?_;dsimp only[dE,over]at h)
    |(refine aq (Ih bw bX g hb hq hg) h λr w h=>?_;obtain⟨hr,h⟩:=h.aP;(try dsimp only at hr h);try rw[hr])
    |(refine aq (uP 3 tso (bh _) ht) h λr w h=>?_;obtain⟨hr,h⟩:=h.aP;(try dsimp only at hr h);try rw[hr])
    |(refine aq (uP 4 bs (bh _) hm) h λr w h=>?_;obtain⟨hr,h⟩:=h.aP;(try dsimp only at hr h);try rw[hr])
    |(refine aq (e_ (Cz bw bX g) (rv 3 tso) (Ly hb hq hg) (Ej (bh _) ht)) h λr w h=>?_;obtain⟨hr,h⟩:=h.aP;(try dsimp only at hr h);try rw[hr]))
   exact au.aH (by unfold Br;rw[aw (show ¬bX=0 by simpa using c)]) h.aK
theorem Cc(bw g:Int)(hb:U bw)(hg:U g):bx (P8 bw g) bg (λr=>br (r=As bw g) bg):=
 bF λw0 S R h=>by
  repeat' (first
   |(refine aM h λw h=>?_)
   |(refine ac ?_)
   |(refine ay h rfl ?_)
   |(refine aj h rfl ?_)
   |(refine aO h ?_)
   |(refine aN h rfl ?_)
   |(refine aA h (by rfl) λw h=>?_)
   |(refine aD h λn w h=>?_)
   |(refine aV h λw h=>?_)
   |(refine be h rfl λw h=>?_;dsimp only[dE,over]at h)
   |(refine aq (nY bw g 256 hb hg (bh _)) h λr w h=>?_;obtain⟨hr,h⟩:=h.aP;(try dsimp only at hr h);try rw[hr]))
  exact au.aH rfl h.aK
theorem v_(bw bX g:Int)(hb:U bw)(hq:U bX)(hg:U g):bx (JJ bw bX g) bg (λr=>br (r=Cz bw bX g) bg):=
 bF λw0 S R h=>by
  repeat' (first
   |(refine aM h λw h=>?_)
   |(refine ac ?_)
   |(refine ay h rfl ?_)
   |(refine aj h rfl ?_)
   |(refine aO h ?_)
   |(refine aN h rfl ?_)
   |(refine aA h (by rfl) λw h=>?_)
   |(refine aD h λn w h=>?_)
   |(refine aV h λw h=>?_)
   |(refine be h rfl λw h=>?_;dsimp only[dE,over]at h)
   |(refine aq (nY bw bX 1000000000 hb hq (bh _)) h λr w h=>?_;obtain⟨hr,h⟩:=h.aP;(try dsimp only at hr h);try rw[hr])
   |(refine aq (nY (qI bw bX 1000000000) g 256 (yR hb hq (bh _)) hg (bh _)) h λr w h=>?_;obtain⟨hr,h⟩:=h.aP;(try dsimp only at hr h);try rw[hr]))
  exact au.aH rfl h.aK
theorem OH(bw bX g tso bs:Int)(hb:U bw)(hq:U bX)(hg:U g)(ht:U tso)(hm:U bs):bx (U5 bw bX g tso bs) bg (λr=>br (r=Br bw bX g tso bs) bg):=
 bF λw0 S R h=>by
  refine ae (λc=>?_) λc=>?_
  ·repeat' (first
    |(refine aM h λw h=>?_)
    |(refine ac ?_)
    |(refine ay h rfl ?_)
    |(refine aj h rfl ?_)
    |(refine aO h ?_)
    |(refine aN h rfl ?_)
    |(refine aA h (by rfl) λw h=>?_)
    |(refine aD h λn w h=>?_)
    |(refine aV h λw h=>?_)
    |(refine be h rfl λw h=>?_;dsimp only[dE,over]at h)
    |(refine aq (wg 10 bs (bh _) hm) h λr w h=>?_;obtain⟨hr,h⟩:=h.aP;(try dsimp only at hr h);try rw[hr]))
   exact au.aH (by unfold Br;rw[aF (show bX=0 by simpa using c)]) h.aK
  ·repeat' (first
    |(refine aM h λw h=>?_)
    |(refine ac ?_)
    |(refine ay h rfl ?_)
    |(refine aj h rfl ?_)
    |(refine aO h ?_)
    |(refine aN h rfl ?_)
    |(refine aA h (by rfl) λw h=>?_)
    |(refine aD h λn w h=>?_)
    |(refine aV h λw h=>?_)
    |(refine be h rfl λw h=>?_;dsimp only[dE,over]at h)
    |(refine aq (v_ bw bX g hb hq hg) h λr w h=>?_;obtain⟨hr,h⟩:=h.aP;(try dsimp only at hr h);try rw[hr])
    |(refine aq (wg 3 tso (bh _) ht) h λr w h=>?_;obtain⟨hr,h⟩:=h.aP;(try dsimp only at hr h);try rw[hr])
    |(refine aq (wg 4 bs (bh _) hm) h λr w h=>?_;obtain⟨hr,h⟩:=h.aP;(try dsimp only at hr h);try rw[hr])
    |(refine aq (fL (Cz bw bX g) (rv 3 tso) (Ly hb hq hg) (Ej (bh _) ht)) h λr w h=>?_;obtain⟨hr,h⟩:=h.aP;(try dsimp only at hr h);try rw[hr]))
   exact au.aH (by unfold Br;rw[aw (show ¬bX=0 by simpa using c)]) h.aK
end Target

namespace Ll
open bK bp _root_.Go.X.Target gT
theorem Pk(w:Int):bx (T6 w) bg (λr=>ex λn:Nat=>br (r=some ⟨n,0⟩) (ah n (ad.gy ((Wn.mk w 0 0 0 0 0 0 0))))):=
 bF λw0 S R h=>by
  refine aD h λn w h=>?_;exact au.gI n (au.aH rfl h.aK)
theorem yZ(b v):bx (Mb (some ⟨b,0⟩)) (ah b (ad.gy v)) (λr=>br (r=v.v0) (ah b (ad.gy v))):=
 bF λw0 S R h=>by
  refine ae (λc=>(by cases c)) λ_=>?_;refine ac ⟨by decide,aj h rfl ?_⟩;exact au.aH rfl h.aK
theorem sw(t s v w:Int)(ht:U t)(hs:U s):bx (Gs t (s,v) w) bg (λr=>br (r=!decide (pO t s w)) bg):=
 bF λw0 S R h=>by
  refine aD h λn w h=>?_;refine aj h rfl ?_;rw[I2 ht hs];exact au.aH (by unfold pO;rw[jH];simp) h.aK
theorem qn(b v)(t x:Int):bx (QA (some ⟨b,0⟩) (t,x)) (ah b (ad.gy v)) (λ_=>ah b (ad.gy ((v.push t x)))):=
 bF λw0 S R h=>by
  refine aD h λn w h=>?_;refine aM h λw h=>?_;refine ay h rfl ?_;refine ac (ac (ac (ac (ac ⟨by decide,by decide,aj h rfl (aj h rfl ⟨by decide,?_⟩)⟩))));refine be h rfl λw h=>?_;dsimp only[dE,over]at h;refine aO h ⟨by decide,?_⟩;refine be h rfl λw h=>?_;dsimp only[dE,over]at h;refine aO h ⟨by decide,?_⟩;refine be h rfl λw h=>?_;dsimp only[dE,over]at h;exact au.bq (A:=ah b (ad.gy ((v.push t x)))) h
def Xd(v:Wn)(f t x:Int)(i:Int):Wn:={ v with
 t0:=if f=0∧0<i then t else v.t0,v0:=if f=0∧0<i then x else v.v0
 t1:=if f≤1∧1<f+i then t else v.t1,v1:=if f≤1∧1<f+i then x else v.v1
 t2:=if 2<f+i then t else v.t2,v2:=if 2<f+i then x else v.v2}
theorem jh(b v)(f t x:Int)(hf:f=0∨f=1∨f=2):bx (Mh (some ⟨b,0⟩) f (t,x)) (ah b (ad.gy v))
    (λ_=>ah b (ad.gy ((if f=0 then v.all t x else if f=1 then v.D7 t x else v.s2 t x)))):=
  bF λw0 S R h=>by
    refine aD h λn w h=>?_;refine ac ?_;refine⟨⟨rfl,λ_=>by simp⟩,f.toNat,3,3,?_,rfl,rfl,⟨by omega,eM _,eM _⟩,?_⟩
    · show f=f.toNat;omega
    have h:au w0 S R w (ah b (ad.gy ((Xd v f t x 0)))^ah n (Ks.mk KP (t,x))^bg):=by
      have h:=h.eP (b:=b) (L':=(ad.gy ((Xd v f t x 0)))) (by rcases hf with rfl|rfl|rfl<;>simp[Xd]);exact h
    have hlen:((Sl.sub ⟨some ⟨b,0+1⟩,3,3⟩ f.toNat 3 3 2).len:Int)=3-f:=(by show((3-f.toNat:Nat):Int)=_;omega);refine cZ (λi:Int=>ah b (ad.gy ((Xd v f t x i)))^ah n (Ks.mk KP (t,x))^bg) (λi:Int=>0≤i∧i≤3-f) (λi:Int=>3-i.toNat) h ⟨ig _,by omega⟩ ?_;rintro(i:Int) w ⟨h0,h1⟩ h;rw[hlen];refine ae (λc=>?_) λc=>?_
    · have c:i<3-f:=cS
      refine aM h λw h=>ay h rfl (ac ?_);rw[fu (n:=f+i),fu (n:=i+1)];refine⟨by omega,?_⟩;have hi:(f=0∧i=0)∨(f=0∧i=1)∨(f=0∧i=2)∨(f=1∧i=0)∨(f=1∧i=1)∨(f=2∧i=0):=by omega
      refine aB h b (ad.gy ((Xd v f t x (i+1)))) rfl ?_ ?_ λw h=>?_
      · rcases hi with⟨rfl,rfl⟩|⟨rfl,rfl⟩|⟨rfl,rfl⟩|⟨rfl,rfl⟩|⟨rfl,rfl⟩|⟨rfl,rfl⟩<;>rfl
      · rcases hi with⟨rfl,rfl⟩|⟨rfl,rfl⟩|⟨rfl,rfl⟩|⟨rfl,rfl⟩|⟨rfl,rfl⟩|⟨rfl,rfl⟩<;>rfl
      · exact⟨⟨⟨by show 0≤i+1;omega,by show i+1≤_;omega⟩,h⟩,by show 3-(i+1).toNat<3-i.toNat;omega⟩
    · have c:i=3-f:=by
       have:¬i<3-f:=cS;omega
      subst c;refine au.bq (A:=ah b (ad.gy ((if f=0 then v.all t x else if f=1 then v.D7 t x else v.s2 t x)))) (h.eP (b:=b) ?_);rcases hf with rfl|rfl|rfl<;>simp[Xd,Wn.all,Wn.D7,Wn.s2]
theorem Ku(b v)(t x:Int):bx (Vz (some ⟨b,0⟩) t x) (ah b (ad.gy v)) (λ_=>ah b (ad.gy (((v.tick t).all t x)))):=
 bF λw0 S R h=>by
  refine ae (λc=>(by cases c)) λ_=>?_;refine ac (aj h rfl (ac ?_));refine aB h b (ad.gy ((v.tick t))) rfl rfl rfl λw h=>?_;refine aq (jh b (v.tick t) 0 t x (.inl rfl)) h λr w h=>?_;exact au.bq (A:=ah b (ad.gy (((v.tick t).all t x)))) h
end Ll

namespace Lm
open bK bp _root_.Go.X.Target gT Ll
theorem U4{w:Int}(h:U w):u64.wrap (w.tdiv 4)=w/4:=by unfold U at h;rw[l_ h.1,iy]
theorem U2{w:Int}(h:U w):u64.wrap (w.tdiv 2)=w/2:=by unfold U at h;rw[l_ h.1,iy]
theorem GR(b:Nat)(v:Wn)(hv:uV v)(t x:Int)(ht:U t)(hx:U x):bx (Vr (some ⟨b,0⟩) t x) (ah b (ad.gy v))
    (λr=>br (r=(AV v t x).v0) (ah b (ad.gy ((AV v t x))))):=
  bF λw0 S R h=>by
    refine ae (λc=>(by cases c)) λ_=>?_;refine ac (aj h rfl (ac ?_));refine aB h b (ad.gy ((v.tick t))) rfl rfl rfl λw h=>?_;have hu:=hv.tick ht;have e0:AV v t x=wU (v.tick t) (v.tick t).la x:=rfl;rw[e0];generalize v.tick t=u at*
    refine ac (aj h rfl ?_);refine aD h λn w h=>?_;refine aB h n [aC u.la,aC x] rfl rfl rfl λw h=>?_;have h:au w0 S R w (ah b (ad.gy u)^ah n [aC u.la,aC x]):=h.aK;refine aS h (λ_=>ah b (ad.gy u)^ah n [aC u.la,aC x]) (λy:Bool=>y=decide (x≥u.v0∨pO u.la u.t2 u.w)) (λ(y:Bool) w hy h=>?_) ?_
    · rw[hy]
      refine ae (λc=>?_) λc=>?_
      · have c:x≥u.v0∨pO u.la u.t2 u.w:=cS
        refine aj h rfl ?_;refine aq (Ku b u u.la x) h λr w h=>?_;have e:wU u u.la x=u.all u.la x:=by unfold wU;rw[aF c]
        rw[e];have e2:u.tick u.la=u:=by unfold Wn.tick;simp
        rw[e2]at h;exact au.aH rfl h.bq
      have c:¬(x≥u.v0∨pO u.la u.t2 u.w):=cS;have e:wU u u.la x=wK (AU u u.la x) u.la x:=(by unfold wU;rw[aw c]);rw[e];refine aS h (λ_=>ah b (ad.gy ((AU u u.la x)))^ah n [aC u.la,aC x]) (λ_=>True) (λ_ w _ h=>?_) ?_
      · have hs:=hu.AU hu.la hx
        have hT:=hu.la;generalize u.la=T at*
        generalize AU u T x=s at*
        refine aS h (λ_=>ah b (ad.gy ((wK s T x)))^ah n [aC T,aC x]) (λ_=>True) (λ_ w _ h=>?_) ?_
        · refine ac ⟨by decide,aj h rfl ?_⟩
          exact au.aH rfl h.bq
        refine aM h λw h=>aj h rfl (ac (ac ⟨by decide,aj h rfl (aj (x:=(s.t0,s.v0)) h rfl ?_)⟩));refine aq (sw T s.t0 s.v0 s.w hT hs.t0) h λr w h=>?_;obtain⟨hr,h⟩:=h.aP;rw[hr,xx];refine ae (λc1=>?_) λc1=>?_
        · have c1:pO T s.t0 s.w:=by simpa using c1
          refine ay (x:=(T,x)) h rfl ?_;refine aq (qn b s T x) h λr w h=>?_;refine aM h λw h=>aj h rfl (ac (ac ⟨by decide,aj h rfl (aj (x:=(s.t1,s.v1)) h rfl ?_)⟩));refine aq (sw T s.t1 s.v1 s.w hT hs.t1) h λr w h=>?_;obtain⟨hr,h⟩:=h.aP;rw[hr,xx];refine ae (λc2=>?_) λc2=>?_
          · have c2:pO T s.t1 s.w:=gJ
            refine ay (x:=(T,x)) h rfl ?_;refine aq (qn b (s.push T x) T x) h λr w h=>?_;have e:wK s T x=(s.push T x).push T x:=by unfold wK;rw[aF c1,aF c2]
            rw[e];exact⟨trivial,h.aK⟩
          · have c2:¬pO T s.t1 s.w:=gJ
            have e:wK s T x=s.push T x:=(by unfold wK;rw[aF c1,aw c2]);rw[e];exact⟨trivial,h.aK⟩
        have c1:¬pO T s.t0 s.w:=(by simpa using c1);have hf:∀k,(wK s T x=k)=((if s.t1=s.t0∧pO T s.t0 (s.w/4)then s.D7 T x else if s.t2=s.t1∧pO T s.t0 (s.w/2)then s.s2 T x else s)=k):=λk=>by unfold wK;rw[aw c1]
        refine aS h (λ_=>ah b (ad.gy s)^ah n [aC T,aC x]) (λy:Bool=>y=decide (s.t1=s.t0∧pO T s.t0 (s.w/4))) (λ(y:Bool) w hy h=>?_) ?_
        · rw[hy]
          refine ae (λc2=>?_) λc2=>?_
          · have c2:s.t1=s.t0∧pO T s.t0 (s.w/4):=gJ
            refine ay (x:=(T,x)) h rfl ?_;refine aq (jh b s 1 T x (.inr (.inl rfl))) h λr w h=>?_;have e:wK s T x=s.D7 T x:=by rw[hf,aF c2]
            rw[e];have h:au w0 S R w (ah b (ad.gy ((s.D7 T x)))^ah n [aC T,aC x]):=h;exact⟨trivial,h⟩
          have c2:¬(s.t1=s.t0∧pO T s.t0 (s.w/4)):=gJ;refine aS h (λ_=>ah b (ad.gy s)^ah n [aC T,aC x]) (λy:Bool=>y=decide (s.t2=s.t1∧pO T s.t0 (s.w/2))) (λ(y:Bool) w hy h=>?_) ?_
          · rw[hy]
            refine ae (λc3=>?_) λc3=>?_
            · have c3:s.t2=s.t1∧pO T s.t0 (s.w/2):=by simpa using c3
              refine ay (x:=(T,x)) h rfl ?_;refine aq (jh b s 2 T x (.inr (.inr rfl))) h λr w h=>?_;have e:wK s T x=s.s2 T x:=by rw[hf,aw c2,aF c3]
              rw[e];have h:au w0 S R w (ah b (ad.gy ((s.s2 T x)))^ah n [aC T,aC x]):=h;exact⟨trivial,h⟩
            · have c3:¬(s.t2=s.t1∧pO T s.t0 (s.w/2)):=by simpa using c3
              have e:wK s T x=s:=(by rw[hf,aw c2,aw c3]);rw[e];exact⟨trivial,h.aK⟩
          · refine aM h λw h=>ac (ac ⟨by decide,by decide,aj h rfl (aj h rfl ?_)⟩)
            refine ae (λc3=>?_) λc3=>?_
            · have c3:s.t2=s.t1:=by simpa using c3
              refine aj h rfl (ac (ac ⟨by decide,aj h rfl (aj (x:=(s.t0,s.v0)) h rfl ?_)⟩));rw[U2 hs.w];refine aq (sw T s.t0 s.v0 (s.w/2) hT hs.t0) h λr w h=>?_;obtain⟨hr,h⟩:=h.aP;exact⟨by rw[hr,xx];simp[c3],h.aK⟩
            · have c3:¬s.t2=s.t1:=by simpa using c3
              exact⟨by simp[c3],h.aK⟩
        · refine aM h λw h=>ac (ac ⟨by decide,by decide,aj h rfl (aj h rfl ?_)⟩)
          refine ae (λc3=>?_) λc3=>?_
          · have c3:s.t1=s.t0:=by simpa using c3
            refine aj h rfl (ac (ac ⟨by decide,aj h rfl (aj (x:=(s.t0,s.v0)) h rfl ?_)⟩));rw[U4 hs.w];refine aq (sw T s.t0 s.v0 (s.w/4) hT hs.t0) h λr w h=>?_;obtain⟨hr,h⟩:=h.aP;exact⟨by rw[hr,xx];simp[c3],h.aK⟩
          · have c3:¬s.t1=s.t0:=by simpa using c3
            exact⟨by simp[c3],h.aK⟩
      · refine cZ (λ_:Int=>ah b (ad.gy u)^ah n [aC u.la,aC x]) (λi:Int=>(0≤i∧i≤3)∧(i≥2→¬x≥u.v1)∧(i≥3→¬x≥u.v2)) (λi:Int=>3-i.toNat) h ⟨⟨by simp,by simp⟩,by simp,by simp⟩ ?_
        rintro(i:Int) w ⟨⟨h0,h1⟩,h2,h3⟩ h;refine ae (λc=>?_) λc=>?_
        · have c:i<3:=cS
          have hi:i=0∨i=1∨i=2:=(by omega);refine aS h (λ_=>ah b (ad.gy u)^ah n [aC u.la,aC x]) (λy:Bool=>y=(decide (i=1∧x≥u.v1)||decide (i=2∧x≥u.v2))) (λ(y:Bool) w hy h=>?_) ?_
          · rw[hy]
            refine ae (λc2=>?_) λc2=>?_
            · refine ay (x:=(u.la,x)) h rfl ?_
              refine aq (jh b u i u.la x hi) h λr w h=>?_;have c2:(i=1∧x≥u.v1)∨(i=2∧x≥u.v2):=gJ;have e:AU u u.la x=if i=0 then u.all u.la x else if i=1 then u.D7 u.la x else u.s2 u.la x:=by
                unfold AU;rcases c2 with⟨rfl,cc⟩|⟨rfl,cc⟩
                · rw[aF cc];rfl
                · rw[aw (h2 (by omega)),aF cc];rfl
              rw[e];exact⟨trivial,h.aK⟩
            · have c2:¬((i=1∧x≥u.v1)∨(i=2∧x≥u.v2)):=gJ
              rw[fu (n:=i+1)];refine⟨⟨⟨⟨by omega,by omega⟩,λhh=>?_,λhh=>?_⟩,h⟩,by omega⟩
              · by_cases hi1:i=1
                · intro hx1;exact c2 (.inl ⟨hi1,hx1⟩)
                · exact h2 (by omega)
              · intro hx1;exact c2 (.inr ⟨by omega,hx1⟩)
          · refine ae (λc2=>?_) λc2=>?_
            · have c2:i>0:=gJ
              refine ac ⟨⟨h0,c⟩,?_⟩;have hi:i=1∨i=2:=by omega
              rcases hi with rfl|rfl
              · exact aj h rfl ⟨by simp,h⟩
              · exact aj h rfl ⟨by simp,h⟩
            · have c2:i=0:=by
               have:¬i>0:=gJ;omega
              exact⟨by simp[c2],h⟩
        · have c:i=3:=by
           have:¬i<3:=cS;omega
          have e:AU u u.la x=u:=(by unfold AU;rw[aw (h2 (by omega)),aw (h3 (by omega))]);rw[e];exact⟨trivial,h⟩
    · refine aM h λw h=>ac ⟨by decide,aj h rfl ?_⟩
      refine ae (λc=>?_) λc=>?_
      · have c:x≥u.v0:=cS
        exact⟨by simp[c],h⟩
      · have c:¬x≥u.v0:=cS
        refine aj h rfl (ac (ac ⟨by decide,aj h rfl (aj (x:=(u.t2,u.v2)) h rfl ?_)⟩));refine aq (sw u.la u.t2 u.v2 u.w hu.la hu.t2) h λr w h=>?_;obtain⟨hr,h⟩:=h.aP;exact⟨by rw[hr,xx];simp[c],h.aK⟩
end Lm

namespace Pz
open bK bp _root_.Go.X.Target gT
theorem AD:bx T7 bg (λr=>ex λn:Nat=>br (r=some ⟨n,0⟩) (ah n (ad.jM ((Sv.mk 0 0))))):=
 bF λw0 S R h=>by
  refine aD h λn w h=>?_;exact au.gI n (au.aH rfl h.aK)
theorem NG:bx T8 bg (λr=>ex λn:Nat=>br (r=some ⟨n,0⟩) (ah n (ad.jG ((Pp.mk 0 0 false))))):=
 bF λw0 S R h=>by
  refine aD h λn w h=>?_;exact au.gI n (au.aH rfl h.aK)
theorem y_:bx T9 bg (λr=>ex λn:Nat=>br (r=some ⟨n,0⟩) (ah n (ad.ja ((Cy.mk 0 0))))):=
 bF λw0 S R h=>by
  refine aD h λn w h=>?_;exact au.gI n (au.aH rfl h.aK)
theorem y4:bx T_ bg (λr=>ex λn:Nat=>br (r=some ⟨n,0⟩) (ah n (ad.jo ((Pb.mk 0 0 false 0 false))))):=
 bF λw0 S R h=>by
  refine aD h λn w h=>?_;exact au.gI n (au.aH rfl h.aK)
theorem zA:bx Ua bg (λr=>ex λn:Nat=>br (r=some ⟨n,0⟩) (ah n (ad.gx ((Pl.mk false false 0 0 0 0 0 0))))):=
 bF λw0 S R h=>by
  refine aD h λn w h=>?_;exact au.gI n (au.aH rfl h.aK)
theorem BD(b r):bx (Qc (some ⟨b,0⟩)) (ah b (ad.jM r)) (λx=>br (x=r.n) (ah b (ad.jM r))):=
 bF λw0 S R h=>by
  refine ae (λc=>(by cases c)) λ_=>ac (aj h rfl ?_);exact au.aH rfl h.aK
theorem Kn(b c):bx (UI (some ⟨b,0⟩)) (ah b (ad.ja c)) (λx=>br (x=c.ph) (ah b (ad.ja c))):=
 bF λw0 S R h=>by
  refine ae (λc=>(by cases c)) λ_=>ac (aj h rfl ?_);exact au.aH rfl h.aK
theorem qf(b p):bx (Ey (some ⟨b,0⟩)) (ah b (ad.jG p)) (λx=>br (x=p.full) (ah b (ad.jG p))):=
 bF λw0 S R h=>by
  refine ae (λ_=>ac (aj h rfl ?_)) λc=>(by cases c);exact au.aH rfl h.aK
theorem p_(b v):bx (Gq (some ⟨b,0⟩)) (ah b (ad.jo v)) (λx=>br (x=v.dz) (ah b (ad.jo v))):=
 bF λw0 S R h=>by
  refine ae (λc=>(by cases c)) λ_=>ac (aj h rfl ?_);exact au.aH rfl h.aK
theorem MK(b c):bx (Vc (some ⟨b,0⟩)) (ah b (ad.ja c)) (λx=>br (x=cG c) (ah b (ad.ja c))):=
 bF λw0 S R h=>by
  refine ae (λ_=>ac (aj h rfl ?_)) λc=>(by cases c);refine ae (λc1=>?_) λc1=>?_
  ·exact au.aH (by unfold cG;rw[aF (by simpa using c1)]) h.aK
  refine ae (λc2=>?_) λc2=>?_
  ·exact au.aH (by unfold cG;rw[aw (by simpa using c1),aF gJ]) h.aK
  ·exact au.aH (by unfold cG;rw[aw (by simpa using c1),aw gJ]) h.aK
theorem E3(b q):bx (Qp (some ⟨b,0⟩)) (ah b (ad.gx q)) (λx=>br (x=(if q.jl then q.bw else 0,q.jl)) (ah b (ad.gx q))):=
 bF λw0 S R h=>by
  refine aS h (λ_=>ah b (ad.gx q)) (λ_=>q.jl=true) (λ_ w hu h=>?_) ?_
  ·refine ac (aj h rfl ?_);exact au.aH (by rw[hu];rfl) h
  ·refine ae (λc=>(by cases c)) λ_=>ac (aj h rfl ?_);refine ae (λc=>?_) λc=>?_
   ·have c:q.jl=false:=cS;exact au.aH (by rw[c];rfl) h
   ·exact⟨cS,h⟩
theorem AG(b r s):bx (Vd (some ⟨b,0⟩) s) (ah b (ad.jM r)) (λx=>br (x=rB r s) (ah b (ad.jM ((rU r s))))):=
 bF λw0 S R h=>by
  refine aD h λn w h=>?_;refine cZ (λ_:Bool=>ah n (Ks.mk aW s)^ah b (ad.jM r)) (λy:Bool=>y=false) (λ_=>0) h rfl ?_;rintro(y:Bool) w hy h;rw[hy];refine aS h (λ_=>ah n (Ks.mk aW s)^ah b (ad.jM r)) (λ_=>fD s>0) (λ_ w c1 h=>?_) ?_
  ·refine aM h λw h=>aj h rfl (ac (aj h rfl ?_));refine ae (λc2=>?_) λc2=>?_
   ·have e:rB r s=false:=(by unfold rB;simp at c2⊢;intro _;exact c2);have e2:rU r s=r:=(by unfold rU;rw[e];rfl);rw[e2];exact au.aH e.symm h.aK
   ·have e:rB r s=true:=(by unfold rB;simp at c2⊢;exact⟨c1,c2⟩);have e2:rU r s=⟨u64.wrap (r.n+1),gK s⟩:=(by unfold rU;rw[e];rfl);rw[e2];refine aj h rfl (ac ?_);refine aB h b [aC r.n,aC (gK s)] rfl rfl rfl λw h=>?_;refine ac (aj h rfl (ac ?_));refine aB h b [aC (u64.wrap (r.n+1)),aC (gK s)] rfl rfl rfl λw h=>?_;exact au.aH e.symm h.aK
  ·refine ae (λ_=>aj h rfl ?_) λc=>(by cases c);refine ae (λc=>?_) λc=>?_
   ·exact⟨cS,h⟩
   ·have e:rB r s=false:=(by unfold rB;rw[show decide (fD s>0)=false from c];rfl);have e2:rU r s=r:=(by unfold rU;rw[e];rfl);rw[e2];exact au.aH e.symm h.aK
theorem NL(b p)(hp:WV p)(a l)(bw:Int)(hb:U bw):bx (Vh (some ⟨b,0⟩) a l bw) (ah b (ad.jG p)) (λx=>br (x=(pU p a l bw).full) (ah b (ad.jG ((pU p a l bw))))):=
 bF λw0 S R h=>by
  refine aS h (λ_=>ah b (ad.jG ((pU p a l bw)))) (λ_=>True) (λ_ w _ h=>?_) ?_
  ·refine aq (qf b (pU p a l bw)) h λr w h=>?_;obtain⟨hr,h⟩:=h.aP;exact au.aH hr h.aK
  refine cZ (λ_:Unit=>ah b (ad.jG p)) (λ_:Unit=>True) (λ_=>0) h trivial ?_;rintro _ w _ h;refine aS h (λ_=>ah b (ad.jG p)) (λ_=>(!p.full&&a&&!l)=true) (λ_ w c h=>?_) ?_
  ·refine ac (aj h rfl ?_);refine aI (uD p.dz 320 256 hp.dz (bh _) (bh _)) h λw h=>?_;refine ae (λc2=>?_) λc2=>?_
   ·have c2:bw≥qI p.dz 320 256:=gJ;have e:pU p a l bw=⟨bw,0,p.full⟩:=(by unfold pU;rw[aF c,aF c2]);rw[e];refine ac (aB h b [aC bw,aJ p.n,a_ p.full] rfl rfl rfl λw h=>?_);refine ac (aB h b [aC bw,aJ 0,a_ p.full] rfl rfl rfl λw h=>?_);exact⟨trivial,h.aK⟩
   ·have c2:¬bw≥qI p.dz 320 256:=gJ;have e:pU p a l bw=⟨p.dz,p.n+1,decide (p.n+1=3)⟩:=(by unfold pU;rw[aF c,aw c2]);rw[e];have hn:=hp.n;refine ac (aj h rfl (ac ?_));rw[fu (n:=p.n+1)];refine aB h b [aC p.dz,aJ (p.n+1),a_ p.full] rfl rfl rfl λw h=>?_;refine ac (aj h rfl (ac ?_));refine aB h b [aC p.dz,aJ (p.n+1),a_ (decide (p.n+1=3))] rfl rfl rfl λw h=>?_;exact⟨trivial,h.aK⟩
  ·refine ae (λ_=>ac (aj h rfl ?_)) λc=>(by cases c);refine ae (λc=>?_) λc=>?_
   ·exact⟨c,h⟩
   ·have e:pU p a l bw=p:=(by unfold pU;rw[aw (by rw[c];simp)]);rw[e];exact⟨trivial,h⟩
theorem ph8{ph:Int}(h0:0≤ph)(h1:ph≤1000):(i64.wrap (ph.tmod 8+8)).tmod 8=ph%8:=by rw[B3 h0,fu,B3 (by omega)];omega
theorem Im(b c)(af ph:Int)(h0:0≤ph)(h1:ph≤1000):bx (Qw (some ⟨b,0⟩) af ph) (ah b (ad.ja c)) (λ_=>ah b (ad.ja ((Ml af ph)))):=
 bF λw0 S R h=>by
  refine ae (λ_=>?_) λc=>(by cases c);rw[ph8 h0 h1];refine ac (aB h b [aJ (ph%8),aC c.lh] rfl rfl rfl λw h=>?_);refine ac (aB h b [aJ (ph%8),aC af] rfl rfl rfl λw h=>?_);exact au.bq (A:=ah b (ad.ja ((Ml af ph)))) h
def cE(c:Cy)(over:Bool)(bn fl up one:Int):Bool:=if c.ph=0 then over&&(decide (bn>0)||decide (fl≥up))else if c.ph=1 then over||decide (fl≤one)else over
theorem aad(c)(af bX bn fl up one:Int):cE c (decide (dV af c.lh>bX)) bn fl up one=cB c af bX bn fl up one:=rfl
theorem JM(b c over)(bn fl up one:Int):bx (Vs (some ⟨b,0⟩) over bn fl up one) (ah b (ad.ja c)) (λx=>br (x=cE c over bn fl up one) (ah b (ad.ja c))):=
 bF λw0 S R h=>by
  refine ac (aj h rfl ?_);refine ae (λc1=>?_) λc1=>?_
  ·exact au.aH (by unfold cE;rw[aF (by simpa using c1)]) h.aK
  refine ae (λc2=>?_) λc2=>?_
  ·exact au.aH (by unfold cE;rw[aw (by simpa using c1),aF gJ]) h.aK
  ·exact au.aH (by unfold cE;rw[aw (by simpa using c1),aw gJ]) h.aK
theorem Mq(b c)(hc:yq c)(af bX bn fl up one:Int)(hn:U af):bx (Vg (some ⟨b,0⟩) af bX bn fl up one) (ah b (ad.ja c)) (λx=>ah b (ad.ja ((cU c af bX bn fl up one)))):=
 bF λw0 S R h=>by
  refine cZ (λ_:Bool=>ah b (ad.ja c)) (λ_:Bool=>True) (λ_=>0) h trivial ?_;rintro _ w _ h;refine aS h (λ_=>ah b (ad.ja c)) (λ_=>cB c af bX bn fl up one=true) (λ_ w c1 h=>?_) ?_
  ·have hp:=hc.ph;refine ac (aj h rfl ?_);rw[fu (n:=c.ph+1)];refine aq (Im b c af (c.ph+1) (by omega) (by omega)) (h.le (aG _)) λr w h=>?_;have e:cU c af bX bn fl up one=Ml af (c.ph+1):=(by unfold cU;rw[aF c1]);rw[e];exact h.bq
  ·refine ae (λ_=>ac (aj h rfl ?_)) λc=>(by cases c);refine aI (jk af c.lh hn hc.lh) h λw h=>?_;refine aq (JM b c _ bn fl up one) h λr w h=>?_;obtain⟨hr,h⟩:=h.aP;rw[hr,aad];refine ae (λc1=>?_) λc1=>?_
   ·exact⟨c1,h.aK⟩
   ·have e:cU c af bX bn fl up one=c:=(by unfold cU;rw[c1];rfl);rw[e];exact h.aK
end Pz

namespace Li
open bK bp _root_.Go.X.Target gT
theorem PR(b v)(af fl floor:Int)(st)(hn:U af):bx (VA (some ⟨b,0⟩) af st fl floor) (ah b (ad.jo v))
  (λx=>br (x=(Cw v af st fl floor).1) (ah b (ad.jo ((Cw v af st fl floor).2)))):=
 bF λw0 S R h=>by
  refine ac (aj h rfl ?_);refine ae (λc1=>?_) λc1=>?_
  ·have c1:v.ki=0:=(by simpa using c1);refine ae (λc2=>?_) λc2=>?_
   ·have c2:fl≤floor:=gJ;have e:Cw v af st fl floor=(false,{v with ki:=bH af 200000000,rd:=false}):=(by unfold Cw;rw[aF c1,aF c2]);rw[e];refine aI (e_ af 200000000 hn (bh _)) (h.le (aG _)) λw h=>?_;refine ac (aB h b [aC v.dz,aC v.lh,a_ v.on,aC (bH af 200000000),a_ v.rd] rfl rfl rfl λw h=>?_);refine ac (aB h b [aC v.dz,aC v.lh,a_ v.on,aC (bH af 200000000),a_ false] rfl rfl rfl λw h=>?_);exact au.aH rfl h.aK
   ·have c2:¬fl≤floor:=gJ;have e:Cw v af st fl floor=(false,v):=(by unfold Cw;rw[aF c1,aw c2]);rw[e];exact au.aH rfl h.aK
  ·have c1:¬v.ki=0:=(by simpa using c1);refine ac (aj h rfl (ac ?_));refine aB h b [aC v.dz,aC v.lh,a_ v.on,aC v.ki,a_ (v.rd||st)] rfl rfl rfl λw h=>?_;have h:au w0 S R w (ah b [aC v.dz,aC v.lh,a_ v.on,aC v.ki,a_ (v.rd||st)]):=h.aK;refine aS h (λ_=>ah b [aC v.dz,aC v.lh,a_ v.on,aC v.ki,a_ (v.rd||st)]) (λ_=>(v.rd||st)=true∧¬af≤v.ki) (λ_ w hc h=>?_) ?_
   ·have e:Cw v af st fl floor=(true,{v with rd:=v.rd||st,lh:=af,on:=false}):=(by unfold Cw;rw[aw c1,aw (by rw[hc.1];simp),aw hc.2]);rw[e];refine ac (aB h b [aC v.dz,aC af,a_ v.on,aC v.ki,a_ (v.rd||st)] rfl rfl rfl λw h=>?_);refine ac (aB h b [aC v.dz,aC af,a_ false,aC v.ki,a_ (v.rd||st)] rfl rfl rfl λw h=>?_);exact au.aH rfl h.aK
   ·refine ac (aj h rfl ?_);refine ae (λc2=>?_) λc2=>?_
    ·have e:Cw v af st fl floor=(false,{v with rd:=v.rd||st}):=(by unfold Cw;rw[aw c1,aF c2]);rw[e];exact au.aH rfl h.aK
    ·refine ac (aj h rfl ?_);refine ae (λc3=>?_) λc3=>?_
     ·have c3:af≤v.ki:=(by simpa using c3);have e:Cw v af st fl floor=(false,{v with rd:=v.rd||st}):=(by unfold Cw;rw[aw c1,aw (by rw[c2];simp),aF c3]);rw[e];exact au.aH rfl h.aK
     ·have c4:∀x:Bool,(!x)=false→x=true:=(by decide);exact⟨⟨c4 _ c2,by simpa using c3⟩,h⟩
theorem LO(b v)(hv:Jp v)(af bX fl floor:Int)(st)(hn:U af)(hq:U bX):bx (Vt (some ⟨b,0⟩) af bX st fl floor) (ah b (ad.jo v))
  (λx=>br (x=(bU v af bX st fl floor).1) (ah b (ad.jo ((bU v af bX st fl floor).2)))):=
 bF λw0 S R h=>by
  refine cZ (λ_:Bool×Bool=>ah b (ad.jo v)) (λy:Bool×Bool=>y=(false,false)) (λ_=>0) h rfl ?_;rintro(⟨y1,y2⟩:Bool×Bool) w hy h;cases hy;refine ae (λ_=>?_) λc=>(by cases c);refine aS h (λ_=>ah b (ad.jo v)) (λy:Bool=>y=Bc v af) (λ(y:Bool) w hy h=>?_) ?_
  ·rw[hy];refine aS h (λ_=>ah b (ad.jo ((lO v af bX)))) (λ_=>True) (λ_ w _ h=>?_) ?_
   ·have on_eq:(lO v af bX).on=v.on:=(by unfold lO;split<;>rfl);refine aS h (λ_=>ah b (ad.jo ((lO v af bX)))) (λy:Bool=>y=(Bc v af&&!v.on)) (λ(y:Bool) w hy h=>?_) ?_
    ·rw[hy];refine ae (λc=>?_) λc=>?_
     ·have e:bU v af bX st fl floor=((true,false),{lO v af bX with on:=true,ki:=0,rd:=false}):=(by unfold bU;rw[aF c]);rw[e];generalize lO v af bX=u at*
      refine ac (aB h b [aC u.dz,aC u.lh,a_ true,aC u.ki,a_ u.rd] rfl rfl rfl λw h=>?_);refine ac (aB h b [aC u.dz,aC u.lh,a_ true,aC 0,a_ u.rd] rfl rfl rfl λw h=>?_);refine ac (aB h b [aC u.dz,aC u.lh,a_ true,aC 0,a_ false] rfl rfl rfl λw h=>?_);exact au.aH rfl h.aK
     ·refine ac (aj h rfl ?_);rw[on_eq];refine ae (λc2=>?_) λc2=>?_
      ·have e:bU v af bX st fl floor=((false,(Cw (lO v af bX) af st fl floor).1),(Cw (lO v af bX) af st fl floor).2):=(by unfold bU;rw[aw (by rw[c];simp),aF c2]);rw[e];refine aq (PR b (lO v af bX) af fl floor st hn) (h.le (aG _)) λr w h=>?_;obtain⟨hr,h⟩:=h.aP;exact au.aH (by rw[hr]) h.aK
      ·have e:bU v af bX st fl floor=((false,false),lO v af bX):=(by unfold bU;rw[aw (by rw[c];simp),aw (by rw[c2];simp)]);rw[e];exact au.aH rfl h.aK
    ·refine ae (λc=>?_) λc=>?_
     ·refine ac (aj h rfl ?_);exact⟨by rw[on_eq,c];rfl,h⟩
     ·exact⟨by rw[c];rfl,h⟩
   ·refine aS h (λ_=>ah b (ad.jo v)) (λy:Bool=>y=yX v af bX) (λ(y:Bool) w hy h=>?_) ?_
    ·rw[hy];refine ae (λc=>?_) λc=>?_
     ·have e:lO v af bX={v with dz:=bX,lh:=af}:=(by unfold lO;rw[aF c]);rw[e];refine ac (aB h b [aC bX,aC v.lh,a_ v.on,aC v.ki,a_ v.rd] rfl rfl rfl λw h=>?_);refine ac (aB h b [aC bX,aC af,a_ v.on,aC v.ki,a_ v.rd] rfl rfl rfl λw h=>?_);exact⟨trivial,h.aK⟩
     ·have e:lO v af bX=v:=(by unfold lO;rw[aw (by rw[c];simp)]);rw[e];exact⟨trivial,h⟩
    ·refine ae (λc=>?_) λc=>?_
     ·refine ac (aj h rfl ?_);refine ae (λc2=>?_) λc2=>?_
      ·exact⟨by unfold yX;rw[show decide (bX>0)=true from c,show decide (v.dz=0)=true by simpa using c2];rfl,h⟩
      ·refine ac (aj h rfl ?_);exact⟨by unfold yX;rw[show decide (bX>0)=true from c,show decide (v.dz=0)=false by simpa using c2];rfl,h⟩
     ·exact⟨by unfold yX;rw[show decide (bX>0)=false from c];rfl,h⟩
  ·refine ac (aj h rfl ?_);refine ae (λc=>?_) λc=>?_
   ·refine ac (aj h rfl ?_);refine aq (e_ v.lh 10000000000 hv.lh (bh _)) (h.le (aG _)) λr w h=>?_;obtain⟨hr,h⟩:=h.aP;exact⟨by rw[hr];unfold Bc;rw[show decide (v.dz>0)=true from c];rfl,h.aK⟩
   ·exact⟨by unfold Bc;rw[show decide (v.dz>0)=false from c];rfl,h⟩
theorem zw(b q s):bx (Qv (some ⟨b,0⟩) s) (ah b (ad.gx q)) (λ_=>ah b (ad.gx ((lu q s)))):=
 bF λw0 S R h=>by
  refine aD h λn w h=>?_;refine aM h λw h=>aj h rfl (aj h rfl (ac (aj h rfl (ac ?_))));refine aB h b [a_ q.jl,a_ true,aC q.bw,aJ q.n,aC q.bn,aC q.t0,aC q.d0,aC q.l0] rfl rfl rfl λw h=>?_;refine aN h rfl (aN h rfl (ac ?_));refine aB h b [a_ q.jl,a_ true,aC q.bw,aJ 0,aC q.bn,aC q.t0,aC q.d0,aC q.l0] rfl rfl rfl λw h=>?_;refine aN h rfl (aN h rfl (ac ?_));refine aB h b [a_ q.jl,a_ true,aC q.bw,aJ 0,aC q.bn,aC (i_ s),aC (gK s),aC q.bn] rfl rfl rfl λw h=>?_;exact au.bq (A:=ah b (ad.gx ((lu q s)))) h
theorem uy(b q):bx (Mf (some ⟨b,0⟩)) (ah b (ad.gx q)) (λ_=>ah b (ad.gx ((gE q)))):=
 bF λw0 S R h=>by
  refine ac (aB h b [a_ false,a_ q.uY,aC q.bw,aJ q.n,aC q.bn,aC q.t0,aC q.d0,aC q.l0] rfl rfl rfl λw h=>?_);refine ac (aB h b [a_ false,a_ false,aC q.bw,aJ q.n,aC q.bn,aC q.t0,aC q.d0,aC q.l0] rfl rfl rfl λw h=>?_);refine ac (aB h b [a_ false,a_ false,aC 0,aJ q.n,aC q.bn,aC q.t0,aC q.d0,aC q.l0] rfl rfl rfl λw h=>?_);exact au.bq (A:=ah b (ad.gx ((gE q)))) h
theorem LC{a b:Int}(ha:U a)(hb:U b):u64.wrap ((if b>a then b else a)-(if b<a then b else a))=apart a b:=by
 unfold U apart at*
 by_cases h:a<b
 ·rw[aF (show b>a by omega),aw (show ¬b<a by omega),aF h,iy]
 ·rw[aw (show ¬b>a by omega),aw h];split
  ·rw[iy]
  ·rw[iy];omega
theorem Jy(a b:Int)(ha:U a)(hb:U b):bx (Vy a b) bg (λx=>br (x=apart a b) bg):=
 bF λw0 S R h=>by exact au.aH (LC ha hb) h.aK
theorem U8{w:Int}(h:U w):u64.wrap (w.tdiv 8)=w/8:=by unfold U at h;rw[l_ h.1,iy]
theorem Ka(b q)(hq:rn q)(s)(hs:mN s):bx (Vx (some ⟨b,0⟩) s) (ah b (ad.gx q))
  (λx=>br (x=match oF q s with|none=>(0,false)|some r=>(r,true)) (ah b (ad.gx q))):=
 bF λw0 S R h=>by
  refine aD h λn w h=>?_;have h:au w0 S R w (ah n (Ks.mk aW s)^ah b (ad.gx q)^bg):=h.le (ba Le.rfl (aG _));refine aM h λw h=>aj h rfl (ac (ac (ac (aj h rfl (ac (aj h rfl (aj h rfl (aj h rfl (aj h rfl ?_)))))))));refine aI (jk (gK s) q.d0 hs.del hq.d0) h λw h=>?_;refine aN h rfl (aN h rfl (aN h rfl (aN h rfl ?_)));refine aI (jk q.bn q.l0 hq.bn hq.l0) h λw h=>?_;refine aN h rfl (aN h rfl ?_);refine aI (jk (i_ s) q.t0 hs.af hq.t0) h λw h=>?_;refine ae (λc=>?_) λc=>?_
  ·have c:dV (gK s) q.d0=0∨dV (i_ s) q.t0=0:=cS;have e:oF q s=none:=(by unfold oF;rw[aF c]);rw[e];exact au.aH rfl h.aK
  have c:¬(dV (gK s) q.d0=0∨dV (i_ s) q.t0=0):=λhh=>by rcases hh with hh|hh<;>simp[hh]at c
  refine aI (uD (dV (gK s) q.d0) 50 256 (nA hs.del hq.d0) (bh _) (bh _)) h λw h=>?_;refine ae (λc2=>?_) λc2=>?_
  ·have c2:dV q.bn q.l0<qI (dV (gK s) q.d0) 50 256:=gJ;have e:oF q s=none:=(by unfold oF;rw[aw c,aF c2]);rw[e];exact au.aH rfl h.aK
  have c2:¬dV q.bn q.l0<qI (dV (gK s) q.d0) 50 256:=gJ;refine aI (uD (dV (gK s) q.d0) 1000000000 (dV (i_ s) q.t0) (nA hs.del hq.d0) (bh _) (nA hs.af hq.t0)) h λw h=>?_;have e:oF q s=some (qI (dV (gK s) q.d0) 1000000000 (dV (i_ s) q.t0)):=by unfold oF;rw[aw c,aw c2]
  rw[e];exact au.aH rfl h.aK
theorem ZA(a b:Int)(ha:U a)(hb:U b):((BitVec.ofInt u64.bits (u64.wrap ((BitVec.ofInt u64.bits a&&&BitVec.ofInt u64.bits b).toNat:Int))&&&BitVec.ofInt u64.bits (1:Int)).toNat:Int)=(a%2+b%2)/2:=by
 show((BitVec.ofInt 64 (u64.wrap ((BitVec.ofInt 64 a&&&BitVec.ofInt 64 b).toNat:Int))&&&BitVec.ofInt 64 1).toNat:Int)=_;obtain⟨x,hx⟩:∃x,(BitVec.ofInt 64 a&&&BitVec.ofInt 64 b).toNat=x:=⟨_,rfl⟩;have hx2:x%2=(a.toNat&&&b.toNat)%2:=by rw[←hx,Hh,XH ha,XH hb]
 have hlt:x<18446744073709551616:=by rw[←hx];exact BitVec.isLt _
 rw[hx,iy];rw[Hh,XH (show U (x:Int) by unfold U;omega),show(BitVec.ofInt 64 1).toNat=2^1-1 by decide,NP];have h3:(a.toNat&&&b.toNat)%2=(a.toNat%2)*(b.toNat%2):=by
  have e:=Nat.and_mod_two_pow (a:=a.toNat) (b:=b.toNat) (n:=1);rw[show(2:Nat)^1=2 from rfl]at e;rw[e];have h1:a.toNat%2=0∨a.toNat%2=1:=by omega
  have h2:b.toNat%2=0∨b.toNat%2=1:=by omega
  rcases h1 with h1|h1<;>rcases h2 with h2|h2<;>rw[h1,h2]<;>rfl
 show((((x:Int).toNat)%2:Nat):Int)=_;rw[eW,hx2,h3];unfold U at ha hb;have h1:a%2=0∨a%2=1:=by omega
 have h2:b%2=0∨b%2=1:=by omega
 rcases h1 with h1|h1<;>rcases h2 with h2|h2
 ·rw[show a.toNat%2=0 by omega,h1,h2];simp
 ·rw[show a.toNat%2=0 by omega,h1,h2];simp
 ·rw[show b.toNat%2=0 by omega,h1,h2];simp
 ·rw[show a.toNat%2=1 by omega,show b.toNat%2=1 by omega,h1,h2];simp
theorem TA{a b:Int}(ha:U a)(hb:U b):u64.wrap ((u64.wrap ((u64.wrap (a.tdiv (2:Int)))+(u64.wrap (b.tdiv (2:Int)))))+(u64.wrap (BitVec.ofInt u64.bits (u64.wrap (BitVec.ofInt u64.bits a&&&BitVec.ofInt u64.bits b).toNat)&&&BitVec.ofInt u64.bits (1:Int)).toNat))=Jz a b:=by
 rw[ZA a b ha hb,l_ ha.1,l_ hb.1];unfold U Jz at*
 simp only[wm];omega
theorem M7(b q)(hq:rn q)(s)(hs:mN s):bx (Vq (some ⟨b,0⟩) s) (ah b (ad.gx q)) (λ_=>ah b (ad.gx ((tG q s)))):=
 bF λw0 S R h=>by
  refine aD h λn w h=>?_;refine ay (x:=s) h rfl ?_;refine aq (Ka b q hq s hs) h λr w h=>?_;obtain⟨hr,h⟩:=h.aP;rw[hr];cases hm:oF q s with
  |none=>
   have e:tG q s=q:=(by unfold tG;rw[hm]);rw[e];refine ae (λc=>?_) λc=>(by cases c);exact h.aK
  |some r=>
   have e:tG q s=xu q s r:=(by unfold tG;rw[hm]);rw[e];have hU:=Gc hq hs hm;refine ae (λc=>(by cases c)) λc=>?_;show join _ _ _ _;refine aS h (λ_=>ah b (ad.gx q)^ah n (Ks.mk aW s)) (λy:Bool=>y=decide (q.bw>0∧apart q.bw r≤q.bw/8)) (λ(y:Bool) w hy h=>?_) ?_
   ·rw[hy];refine ae (λc=>?_) λc=>?_
    ·have c:q.bw>0∧apart q.bw r≤q.bw/8:=cS;have e:xu q s r={q with bw:=Jz q.bw r,jl:=true,n:=0}:=(by unfold xu;rw[aF c]);rw[e];refine aM h λw h=>ac (ac (aj h rfl (aj h rfl (ac ?_))));dsimp only;rw[TA hq.bw hU];refine aB h b [a_ q.jl,a_ q.uY,aC (Jz q.bw r),aJ q.n,aC q.bn,aC q.t0,aC q.d0,aC q.l0] rfl rfl rfl λw h=>?_;refine ac (aB h b [a_ true,a_ q.uY,aC (Jz q.bw r),aJ q.n,aC q.bn,aC q.t0,aC q.d0,aC q.l0] rfl rfl rfl λw h=>?_);refine ac (aB h b [a_ true,a_ q.uY,aC (Jz q.bw r),aJ 0,aC q.bn,aC q.t0,aC q.d0,aC q.l0] rfl rfl rfl λw h=>?_);exact h.bq
    ·have c:¬(q.bw>0∧apart q.bw r≤q.bw/8):=cS;have e:xu q s r=lu {q with bw:=r} s:=(by unfold xu;rw[aw c]);rw[e];refine ac (aB h b (ad.gx ({q with bw:=r})) rfl rfl rfl λw h=>?_);refine ay (x:=s) h rfl ?_;refine aq (zw b {q with bw:=r} s) h λ_ w h=>?_;exact h.bq
   ·refine aM h λw h=>ac (aj h rfl ?_);refine ae (λc=>?_) λc=>?_
    ·have c:q.bw>0:=cS;refine ac (ac (aj h rfl (aj h rfl ?_)));refine aq (Jy q.bw r hq.bw hU) (h.le ((ba Le.rfl (aG _)))) λx w h=>?_;obtain⟨hx,h⟩:=h.aP;rw[hx,U8 hq.bw];refine aN h rfl ?_;exact⟨by simp[c],h.aK⟩
    ·have c:¬q.bw>0:=cS;exact⟨by simp[c],h.aK⟩
theorem Jb(h:rn q)(o)(hn:(gw q o).jl=false→(gw q o).n≤16)(hu:(gw q o).jl=false):rn (gw q o):=by
 cases o with
 |false=>exact h
 |true=>
  have h0:=h.n.1;have h1:=hn hu;have hu:q.jl=false:=hu;have h1:q.n+1≤16:=h1;exact⟨h.bw,⟨(by show 0≤q.n+1;omega),(by show q.n+1≤48;omega)⟩,h.bn,h.t0,h.d0,h.l0,(λhh=>by have hh:q.jl=true:=hh;rw[hu]at hh;cases hh),λ_ _=>h1⟩
theorem Nf(b q)(hq:rn q)(o s)(hs:mN s):bx (Ve (some ⟨b,0⟩) o s) (ah b (ad.gx q)) (λ_=>ah b (ad.gx ((yn q o s)))):=
  bF λw0 S R h=>by
    refine aD h λn w h=>?_;have h:au w0 S R w (ah n (Ks.mk aW s)^ah b (ad.gx q)^bg):=h.le (ba Le.rfl (aG _));refine cZ (λ_:Unit=>ah n (Ks.mk aW s)^ah b (ad.gx q)^bg) (λ_:Unit=>True) (λ_=>0) h trivial ?_;rintro _ w _ h;refine ae (λ_=>?_) λc=>(by cases c);refine aM h λw h=>ac (aj h rfl (aj h rfl ?_));refine aI (e_ q.bn (gP s) hq.bn hs.bn) h λw h=>?_;refine ac (aB h b (ad.gx ((mj q s))) rfl rfl rfl λw h=>?_);have hq1:=hq.add hs;have hu:(mj q s).jl=q.jl:=rfl;have hm:(mj q s).uY=q.uY:=rfl;have hdef:yn q o s=if(mj q s).jl=false∧(mj q s).uY=false then(if gP s>0 then lu (mj q s) s else mj q s)
        else if(mj q s).jl=false∧rz s=true then gE (mj q s)else C_ (gw (mj q s) o) o s:=rfl
    rw[hdef];generalize mj q s=u at*
    have h:au w0 S R w (ah n (Ks.mk aW s)^ah b (ad.gx u)):=h.aK;refine aS h (λ_=>ah n (Ks.mk aW s)^ah b (ad.gx u)) (λy:Bool=>y=decide (u.jl=false∧u.uY=false)) (λ(y:Bool) w hy h=>?_) ?_
    · rw[hy]
      refine ae (λc=>?_) λc=>?_
      · have c:u.jl=false∧u.uY=false:=cS
        rw[aF c];refine aj h rfl ?_;refine ae (λc2=>?_) λc2=>?_
        · have c2:gP s>0:=gJ
          rw[aF c2];refine ay (x:=s) h rfl ?_;refine aq (zw b u s) (h.le (ba Le.rfl (aG _))) λ_ w h=>?_;exact h.bq
        · have c2:¬gP s>0:=gJ
          rw[aw c2];exact h.aK
      have c:¬(u.jl=false∧u.uY=false):=cS;rw[aw c];refine aS h (λ_=>ah n (Ks.mk aW s)^ah b (ad.gx u)) (λ_=>¬(u.jl=false∧rz s=true)) (λ_ w c2 h=>?_) ?_
      · rw[aw c2]
        have hn:=hq1.n;refine aS h (λ_=>ah n (Ks.mk aW s)^ah b (ad.gx ((gw u o)))) (λ_=>True) (λ_ w _ h=>?_) ?_
        · have ht:=Jb hq1 o
          generalize gw u o=v at*
          refine ac (aj h rfl ?_);refine ae (λc3=>?_) λc3=>?_
          · have c3:v.jl=true:=c3
            refine aS h (λ_=>ah n (Ks.mk aW s)^ah b (ad.gx v)) (λy:Bool=>y=decide (o=true∧v.n=48)) (λ(y:Bool) w hy h=>?_) ?_
            · rw[hy]
              refine ae (λc4=>?_) λc4=>?_
              · have c4:o=true∧v.n=48:=by simpa using c4
                have e:C_ v o s={gE v with n:=0}:=(by unfold C_;rw[aF c3,aF c4]);rw[e];refine aq (uy b v) (h.le (ba Le.rfl (aG _))) λ_ w h=>?_;refine ac (aB h b (ad.gx ({gE v with n:=0})) rfl rfl rfl λw h=>?_);exact h.bq
              · have c4:¬(o=true∧v.n=48):=by simpa using c4
                have e:C_ v o s=v:=(by unfold C_;rw[aF c3,aw c4]);rw[e];exact h.aK
            · refine ae (λc4=>?_) λc4=>?_
              · refine ac (aj h rfl ?_)
                have c4:o=true:=c4;exact⟨by rw[c4,jH];simp,h⟩
              · have c4:o=false:=c4
                exact⟨by rw[c4];rfl,h⟩
          have c3:¬v.jl=true:=(by rw[show v.jl=false from c3];simp);have c3':v.jl=false:=(by simpa using c3);refine ac (aj h rfl ?_);refine ae (λc4=>?_) λc4=>?_
          · have c4:v.n>16:=by simpa using c4
            have e:C_ v o s=gE v:=(by unfold C_;rw[aw c3,aF c4]);rw[e];refine aq (uy b v) (h.le (ba Le.rfl (aG _))) λ_ w h=>?_;exact h.bq
          have c4:¬v.n>16:=(by simpa using c4);refine aS h (λ_=>ah n (Ks.mk aW s)^ah b (ad.gx v)) (λy:Bool=>y=decide (v.n≥4∧gP s>0)) (λ(y:Bool) w hy h=>?_) ?_
          · rw[hy]
            refine ae (λc5=>?_) λc5=>?_
            · have c5:v.n≥4∧gP s>0:=by simpa using c5
              have e:C_ v o s=tG v s:=(by unfold C_;rw[aw c3,aw c4,aF c5]);rw[e];refine ay (x:=s) h rfl ?_;refine aq (M7 b v (ht (λ_=>by omega) c3') s hs) (h.le (ba Le.rfl (aG _))) λ_ w h=>?_;exact h.bq
            · have c5:¬(v.n≥4∧gP s>0):=by simpa using c5
              have e:C_ v o s=v:=(by unfold C_;rw[aw c3,aw c4,aw c5]);rw[e];exact h.aK
          · refine ac (aj h rfl ?_)
            refine ae (λc5=>?_) λc5=>?_
            · refine aj h rfl ?_
              have c5:v.n≥4:=(by simpa using c5);exact⟨by rw[jH];simp[c5],h⟩
            · have c5:¬v.n≥4:=by simpa using c5
              exact⟨by simp[c5],h⟩
        · refine ae (λc3=>?_) λc3=>?_
          · have c3:o=true:=c3
            have e:gw u o={u with n:=u.n+1}:=(by unfold gw;rw[aF c3]);rw[e];refine ac (aj h rfl (ac ?_));rw[fu (n:=u.n+1)];refine aB h b (ad.gx ({u with n:=u.n+1})) rfl rfl rfl λw h=>?_;exact⟨trivial,h.aK⟩
          · have c3:o=false:=c3
            have e:gw u o=u:=(by unfold gw;rw[c3];rfl);rw[e];exact⟨trivial,h⟩
      · refine ac (aj h rfl ?_)
        refine ae (λc2=>?_) λc2=>?_
        · have c2:u.jl=false:=gJ
          refine aj h rfl ?_;refine ae (λc3=>?_) λc3=>?_
          · rw[aF ⟨c2,c3⟩]
            refine aq (uy b u) (h.le (ba Le.rfl (aG _))) λ_ w h=>?_;exact h.bq
          · exact⟨λhh=>by
             have:rz s=false:=c3;rw[this]at hh;simp at hh,h⟩
        · have c2:u.jl=true:=gJ
          exact⟨(λhh=>by rw[c2]at hh;simp at hh),h⟩
    · refine ac (aj h rfl ?_)
      refine ae (λc=>?_) λc=>?_
      · have c:u.jl=false:=cS
        refine ac (aj h rfl ?_);exact⟨by rw[c];cases u.uY<;>rfl,h⟩
      · have c:u.jl=true:=cS
        exact⟨by rw[c];rfl,h⟩
end Li

namespace Lj
open bK bp _root_.Go.X.Target gT fQ Ll Lm Pz Li
theorem ku(n:Int):bx (PU n) bg (λr=>ex λx:Nat×Nat×Nat×Nat×Nat×Nat×Nat=>match x with|(b,n1,n2,n3,n4,n5,n6)=>br (r=some ⟨b,0⟩) (ah b (ad.ii n1 n2 n3 n4 n5 n6 ((mJ n)))^ah n1 (ad.gy ((mJ n).w))^ah n2 (ad.jM ((mJ n).r))^ah n3 (ad.jG ((mJ n).p))^ah n4 (ad.ja ((mJ n).c))^ah n5 (ad.jo ((mJ n).b))^ah n6 (ad.gx ((mJ n).q)))):=
 bF λw0 S R h=>by
  refine aq (Pk 10) h λr w h=>?_;obtain⟨n1,h⟩:=h.lS;obtain⟨hr,h⟩:=h.aP;rw[hr];refine aq AD h λr w h=>?_;obtain⟨n2,h⟩:=h.lS;obtain⟨hr,h⟩:=h.aP;rw[hr];refine aq NG h λr w h=>?_;obtain⟨n3,h⟩:=h.lS;obtain⟨hr,h⟩:=h.aP;rw[hr];refine aq y_ h λr w h=>?_;obtain⟨n4,h⟩:=h.lS;obtain⟨hr,h⟩:=h.aP;rw[hr];refine aq y4 h λr w h=>?_;obtain⟨n5,h⟩:=h.lS;obtain⟨hr,h⟩:=h.aP;rw[hr];refine aq zA h λr w h=>?_;obtain⟨n6,h⟩:=h.lS;obtain⟨hr,h⟩:=h.aP;rw[hr];have hm:=IP n;refine aD h λb w h=>?_;change au w0 S R w (ah b [.ptr (some ⟨n1,0⟩),.ptr (some ⟨n2,0⟩),.ptr (some ⟨n3,0⟩),.ptr (some ⟨n4,0⟩),.ptr (some ⟨n5,0⟩),.ptr (some ⟨n6,0⟩),aC (nk n),aJ 0,aC 0,aC 0,aC 0,a_ false,a_ false,aC 0]^_)at h;change az _ (λq8=>st _ [aC (u64.wrap (10*nk n))] _) w;rw[iy (n:=10*nk n)];refine ac (aB h b [.ptr (some ⟨n1,0⟩),.ptr (some ⟨n2,0⟩),.ptr (some ⟨n3,0⟩),.ptr (some ⟨n4,0⟩),.ptr (some ⟨n5,0⟩),.ptr (some ⟨n6,0⟩),aC (nk n),aJ 0,aC 0,aC (10*nk n),aC 0,a_ false,a_ false,aC 0] rfl rfl rfl λw h=>?_);refine ac (aj h rfl ?_);rw[iy (n:=10*nk n*1000)];refine aI (v7 (10*nk n*1000) 739 ⟨by omega,by omega⟩ (bh _)) h λw h=>?_;refine ac (aB h b (ad.ii n1 n2 n3 n4 n5 n6 ((mJ n))) rfl rfl rfl λw h=>?_);exact au.gI (b,n1,n2,n3,n4,n5,n6) (au.aH rfl h.aK)
section
variable (b n1 n2 n3 n4 n5 n6:Nat) (m:Md)
theorem y6:bx (Gp (some ⟨b,0⟩)) (ah b (ad.ii n1 n2 n3 n4 n5 n6 m)^ah n1 (ad.gy m.w)^ah n2 (ad.jM m.r)^ah n3 (ad.jG m.p)^ah n4 (ad.ja m.c)^ah n5 (ad.jo m.b)^ah n6 (ad.gx m.q)) (λr=>br (r=zC m) (ah b (ad.ii n1 n2 n3 n4 n5 n6 m)^ah n1 (ad.gy m.w)^ah n2 (ad.jM m.r)^ah n3 (ad.jG m.p)^ah n4 (ad.ja m.c)^ah n5 (ad.jo m.b)^ah n6 (ad.gx m.q))):=
 bF λw0 S R h=>by
  repeat' (first
   |(refine aM h λw h=>?_)
   |(refine ac ?_)
   |(refine ay h rfl ?_)
   |(refine aj h rfl ?_)
   |(refine aO h ?_)
   |(refine aN h rfl ?_)
   |(refine aA h (by rfl) λw h=>?_)
   |(refine aD h λn w h=>?_)
   |(refine aV h λw h=>?_)
   |(refine be h rfl λw h=>?_;dsimp only[dE,over]at h)
   |(refine aq (E3 n6 m.q) h λr w h=>?_;obtain⟨hr,h⟩:=h.aP;(try dsimp only at hr h);try rw[hr]))
  refine ae (λc=>?_) λc=>?_
  ·have c:m.q.jl=true:=c;exact au.aH (by unfold zC;rw[c];rfl) h.aK
  ·have c:m.q.jl=false:=c;repeat' (first
    |(refine aM h λw h=>?_)
    |(refine ac ?_)
    |(refine ay h rfl ?_)
    |(refine aj h rfl ?_)
    |(refine aO h ?_)
    |(refine aN h rfl ?_)
    |(refine aA h (by rfl) λw h=>?_)
    |(refine aD h λn w h=>?_)
    |(refine aV h λw h=>?_)
    |(refine be h rfl λw h=>?_;dsimp only[dE,over]at h)
    |(refine aq (yZ n1 m.w) h λr w h=>?_;obtain⟨hr,h⟩:=h.aP;(try dsimp only at hr h);try rw[hr]))
   exact au.aH (by unfold zC;rw[c];rfl) h.aK
theorem C8:bx (L3 (some ⟨b,0⟩)) (ah b (ad.ii n1 n2 n3 n4 n5 n6 m)^ah n1 (ad.gy m.w)^ah n2 (ad.jM m.r)^ah n3 (ad.jG m.p)^ah n4 (ad.ja m.c)^ah n5 (ad.jo m.b)^ah n6 (ad.gx m.q)) (λr=>br (r=m.q.jl) (ah b (ad.ii n1 n2 n3 n4 n5 n6 m)^ah n1 (ad.gy m.w)^ah n2 (ad.jM m.r)^ah n3 (ad.jG m.p)^ah n4 (ad.ja m.c)^ah n5 (ad.jo m.b)^ah n6 (ad.gx m.q))):=
 bF λw0 S R h=>by
  repeat' (first
   |(refine aM h λw h=>?_)
   |(refine ac ?_)
   |(refine ay h rfl ?_)
   |(refine aj h rfl ?_)
   |(refine aO h ?_)
   |(refine aN h rfl ?_)
   |(refine aA h (by rfl) λw h=>?_)
   |(refine aD h λn w h=>?_)
   |(refine aV h λw h=>?_)
   |(refine be h rfl λw h=>?_;dsimp only[dE,over]at h)
   |(refine aq (E3 n6 m.q) h λr w h=>?_;obtain⟨hr,h⟩:=h.aP;(try dsimp only at hr h);try rw[hr]))
  exact au.aH rfl h.aK
theorem BJ:bx (Qb (some ⟨b,0⟩)) (ah b (ad.ii n1 n2 n3 n4 n5 n6 m)^ah n1 (ad.gy m.w)^ah n2 (ad.jM m.r)^ah n3 (ad.jG m.p)^ah n4 (ad.ja m.c)^ah n5 (ad.jo m.b)^ah n6 (ad.gx m.q)) (λr=>br (r=fE m) (ah b (ad.ii n1 n2 n3 n4 n5 n6 m)^ah n1 (ad.gy m.w)^ah n2 (ad.jM m.r)^ah n3 (ad.jG m.p)^ah n4 (ad.ja m.c)^ah n5 (ad.jo m.b)^ah n6 (ad.gx m.q))):=
 bF λw0 S R h=>by
  repeat' (first
   |(refine aM h λw h=>?_)
   |(refine ac ?_)
   |(refine ay h rfl ?_)
   |(refine aj h rfl ?_)
   |(refine aO h ?_)
   |(refine aN h rfl ?_)
   |(refine aA h (by rfl) λw h=>?_)
   |(refine aD h λn w h=>?_)
   |(refine aV h λw h=>?_)
   |(refine be h rfl λw h=>?_;dsimp only[dE,over]at h))
  refine ae (λc=>?_) λc=>?_
  ·exact au.aH (by unfold fE;rw[aF cS]) h.aK
  repeat' (first
   |(refine aM h λw h=>?_)
   |(refine ac ?_)
   |(refine ay h rfl ?_)
   |(refine aj h rfl ?_)
   |(refine aO h ?_)
   |(refine aN h rfl ?_)
   |(refine aA h (by rfl) λw h=>?_)
   |(refine aD h λn w h=>?_)
   |(refine aV h λw h=>?_)
   |(refine be h rfl λw h=>?_;dsimp only[dE,over]at h))
  refine ae (λc2=>?_) λc2=>?_
  ·exact au.aH (by unfold fE;rw[aw cS,aF gJ]) h.aK
  have e:fE m=if m.mode=2∧m.q.jl=false then cG m.c else 256:=by unfold fE;rw[aw cS,aw gJ]
  rw[e];refine aS h (λ_=>ah b (ad.ii n1 n2 n3 n4 n5 n6 m)^ah n1 (ad.gy m.w)^ah n2 (ad.jM m.r)^ah n3 (ad.jG m.p)^ah n4 (ad.ja m.c)^ah n5 (ad.jo m.b)^ah n6 (ad.gx m.q)) (λy:Bool=>y=decide (m.mode=2∧m.q.jl=false)) (λ(y:Bool) w hy h=>?_) ?_
  ·rw[hy];refine ae (λc3=>?_) λc3=>?_
   ·have c3:m.mode=2∧m.q.jl=false:=(by simpa using c3);rw[aF c3];repeat' (first
     |(refine aM h λw h=>?_)
     |(refine ac ?_)
     |(refine ay h rfl ?_)
     |(refine aj h rfl ?_)
     |(refine aO h ?_)
     |(refine aN h rfl ?_)
     |(refine aA h (by rfl) λw h=>?_)
     |(refine aD h λn w h=>?_)
     |(refine aV h λw h=>?_)
     |(refine be h rfl λw h=>?_;dsimp only[dE,over]at h)
     |(refine aq (MK n4 m.c) h λr w h=>?_;obtain⟨hr,h⟩:=h.aP;(try dsimp only at hr h);try rw[hr]))
    exact au.aH rfl h.aK
   ·have c3:¬(m.mode=2∧m.q.jl=false):=(by simpa using c3);rw[aw c3];exact au.aH rfl h.aK
  ·repeat' (first
    |(refine aM h λw h=>?_)
    |(refine ac ?_)
    |(refine ay h rfl ?_)
    |(refine aj h rfl ?_)
    |(refine aO h ?_)
    |(refine aN h rfl ?_)
    |(refine aA h (by rfl) λw h=>?_)
    |(refine aD h λn w h=>?_)
    |(refine aV h λw h=>?_)
    |(refine be h rfl λw h=>?_;dsimp only[dE,over]at h))
   refine ae (λc3=>?_) λc3=>?_
   ·have c3:m.mode=2:=(by simpa using c3);repeat' (first
     |(refine aM h λw h=>?_)
     |(refine ac ?_)
     |(refine ay h rfl ?_)
     |(refine aj h rfl ?_)
     |(refine aO h ?_)
     |(refine aN h rfl ?_)
     |(refine aA h (by rfl) λw h=>?_)
     |(refine aD h λn w h=>?_)
     |(refine aV h λw h=>?_)
     |(refine be h rfl λw h=>?_;dsimp only[dE,over]at h)
     |(refine aq (C8 b n1 n2 n3 n4 n5 n6 m) h λr w h=>?_;obtain⟨hr,h⟩:=h.aP;(try dsimp only at hr h);try rw[hr]))
    exact⟨by rw[jH];simp[c3],h.aK⟩
   ·have c3:¬m.mode=2:=(by simpa using c3);exact⟨by simp[c3],h.aK⟩
theorem K6:bx (Vv (some ⟨b,0⟩)) (ah b (ad.ii n1 n2 n3 n4 n5 n6 m)^ah n1 (ad.gy m.w)^ah n2 (ad.jM m.r)^ah n3 (ad.jG m.p)^ah n4 (ad.ja m.c)^ah n5 (ad.jo m.b)^ah n6 (ad.gx m.q)) (λr=>br (r=jY m) (ah b (ad.ii n1 n2 n3 n4 n5 n6 m)^ah n1 (ad.gy m.w)^ah n2 (ad.jM m.r)^ah n3 (ad.jG m.p)^ah n4 (ad.ja m.c)^ah n5 (ad.jo m.b)^ah n6 (ad.gx m.q))):=
 bF λw0 S R h=>by
  repeat' (first
   |(refine aM h λw h=>?_)
   |(refine ac ?_)
   |(refine ay h rfl ?_)
   |(refine aj h rfl ?_)
   |(refine aO h ?_)
   |(refine aN h rfl ?_)
   |(refine aA h (by rfl) λw h=>?_)
   |(refine aD h λn w h=>?_)
   |(refine aV h λw h=>?_)
   |(refine be h rfl λw h=>?_;dsimp only[dE,over]at h))
  refine ae (λc=>?_) λc=>?_
  ·exact au.aH (by unfold jY;rw[aF cS]) h.aK
  refine ae (λc2=>?_) λc2=>?_
  ·exact au.aH (by unfold jY;rw[aw cS,aF gJ]) h.aK
  ·exact au.aH (by unfold jY;rw[aw cS,aw gJ]) h.aK
theorem xf(hm:gp m):bx (Mg (some ⟨b,0⟩)) (ah b (ad.ii n1 n2 n3 n4 n5 n6 m)^ah n1 (ad.gy m.w)^ah n2 (ad.jM m.r)^ah n3 (ad.jG m.p)^ah n4 (ad.ja m.c)^ah n5 (ad.jo m.b)^ah n6 (ad.gx m.q)) (λr=>br (r=jA m) (ah b (ad.ii n1 n2 n3 n4 n5 n6 m)^ah n1 (ad.gy m.w)^ah n2 (ad.jM m.r)^ah n3 (ad.jG m.p)^ah n4 (ad.ja m.c)^ah n5 (ad.jo m.b)^ah n6 (ad.gx m.q))):=
 bF λw0 S R h=>by
  repeat' (first
   |(refine aM h λw h=>?_)
   |(refine ac ?_)
   |(refine ay h rfl ?_)
   |(refine aj h rfl ?_)
   |(refine aO h ?_)
   |(refine aN h rfl ?_)
   |(refine aA h (by rfl) λw h=>?_)
   |(refine aD h λn w h=>?_)
   |(refine aV h λw h=>?_)
   |(refine be h rfl λw h=>?_;dsimp only[dE,over]at h))
  have:=hm.bs;exact au.aH (iy) h.aK
theorem yY(hm:gp m)(g:Int)(hg:U g):bx (Me (some ⟨b,0⟩) g) (ah b (ad.ii n1 n2 n3 n4 n5 n6 m)^ah n1 (ad.gy m.w)^ah n2 (ad.jM m.r)^ah n3 (ad.jG m.p)^ah n4 (ad.ja m.c)^ah n5 (ad.jo m.b)^ah n6 (ad.gx m.q)) (λr=>br (r=sk m g) (ah b (ad.ii n1 n2 n3 n4 n5 n6 m)^ah n1 (ad.gy m.w)^ah n2 (ad.jM m.r)^ah n3 (ad.jG m.p)^ah n4 (ad.ja m.c)^ah n5 (ad.jo m.b)^ah n6 (ad.gx m.q))):=
 bF λw0 S R h=>by
  have h:au w0 S R w0 ((ah b (ad.ii n1 n2 n3 n4 n5 n6 m)^ah n1 (ad.gy m.w)^ah n2 (ad.jM m.r)^ah n3 (ad.jG m.p)^ah n4 (ad.ja m.c)^ah n5 (ad.jo m.b)^ah n6 (ad.gx m.q))^bg):=h.le (aG _);repeat' (first
   |(refine aM h λw h=>?_)
   |(refine ac ?_)
   |(refine ay h rfl ?_)
   |(refine aj h rfl ?_)
   |(refine aO h ?_)
   |(refine aN h rfl ?_)
   |(refine aA h (by rfl) λw h=>?_)
   |(refine aD h λn w h=>?_)
   |(refine aV h λw h=>?_)
   |(refine be h rfl λw h=>?_;dsimp only[dE,over]at h)
   |(refine aq (y6 b n1 n2 n3 n4 n5 n6 m) h λr w h=>?_;obtain⟨hr,h⟩:=h.aP;(try dsimp only at hr h);try rw[hr])
   |(refine aq (p_ n5 m.b) h λr w h=>?_;obtain⟨hr,h⟩:=h.aP;(try dsimp only at hr h);try rw[hr])
   |(refine aq (Ih (zC m) m.b.dz g hm.bw hm.b.dz hg) h λr w h=>?_;obtain⟨hr,h⟩:=h.aP;(try dsimp only at hr h);try rw[hr]))
  exact au.aH rfl h.aK
theorem zb(af:Int):bx (Qy (some ⟨b,0⟩) af) (ah b (ad.ii n1 n2 n3 n4 n5 n6 m)^ah n1 (ad.gy m.w)^ah n2 (ad.jM m.r)^ah n3 (ad.jG m.p)^ah n4 (ad.ja m.c)^ah n5 (ad.jo m.b)^ah n6 (ad.gx m.q)) (λ_=>ah b (ad.ii n1 n2 n3 n4 n5 n6 ((eU m af)))^ah n1 (ad.gy ((eU m af).w))^ah n2 (ad.jM ((eU m af).r))^ah n3 (ad.jG ((eU m af).p))^ah n4 (ad.ja ((eU m af).c))^ah n5 (ad.jo ((eU m af).b))^ah n6 (ad.gx ((eU m af).q))):=
 bF λw0 S R h=>by
  refine ac (aB h b (ad.ii n1 n2 n3 n4 n5 n6 ((eU m af))) rfl rfl rfl λw h=>?_);refine ac (aj h rfl ?_);refine aq (Im n4 m.c af 2 (by decide) (by decide)) h λr w h=>?_;show au w0 S R w (ah b (ad.ii n1 n2 n3 n4 n5 n6 ((eU m af)))^ah n1 (ad.gy ((eU m af).w))^ah n2 (ad.jM ((eU m af).r))^ah n3 (ad.jG ((eU m af).p))^ah n4 (ad.ja ((eU m af).c))^ah n5 (ad.jo ((eU m af).b))^ah n6 (ad.gx ((eU m af).q)));exact h.aK
theorem rQ:bx (Qz (some ⟨b,0⟩)) (ah b (ad.ii n1 n2 n3 n4 n5 n6 m)^ah n1 (ad.gy m.w)^ah n2 (ad.jM m.r)^ah n3 (ad.jG m.p)^ah n4 (ad.ja m.c)^ah n5 (ad.jo m.b)^ah n6 (ad.gx m.q)) (λ_=>ah b (ad.ii n1 n2 n3 n4 n5 n6 ((gr m)))^ah n1 (ad.gy ((gr m).w))^ah n2 (ad.jM ((gr m).r))^ah n3 (ad.jG ((gr m).p))^ah n4 (ad.ja ((gr m).c))^ah n5 (ad.jo ((gr m).b))^ah n6 (ad.gx ((gr m).q))):=
 bF λw0 S R h=>by
  refine aM h λw h=>ac (ac (aj h rfl (aj h rfl (ac ?_))));refine aB h b (ad.ii n1 n2 n3 n4 n5 n6 ({m with cO:=if m.gM>m.cO then m.gM else m.cO})) rfl rfl rfl λw h=>?_;refine ac (aB h b (ad.ii n1 n2 n3 n4 n5 n6 ((gr m))) rfl rfl rfl λw h=>?_);show au w0 S R w (ah b (ad.ii n1 n2 n3 n4 n5 n6 ((gr m)))^ah n1 (ad.gy ((gr m).w))^ah n2 (ad.jM ((gr m).r))^ah n3 (ad.jG ((gr m).p))^ah n4 (ad.ja ((gr m).c))^ah n5 (ad.jo ((gr m).b))^ah n6 (ad.gx ((gr m).q)));exact h.aK
theorem Ch:bx (wX (some ⟨b,0⟩)) (ah b (ad.ii n1 n2 n3 n4 n5 n6 m)^ah n1 (ad.gy m.w)^ah n2 (ad.jM m.r)^ah n3 (ad.jG m.p)^ah n4 (ad.ja m.c)^ah n5 (ad.jo m.b)^ah n6 (ad.gx m.q)) (λr=>br (r=GQ m) (ah b (ad.ii n1 n2 n3 n4 n5 n6 m)^ah n1 (ad.gy m.w)^ah n2 (ad.jM m.r)^ah n3 (ad.jG m.p)^ah n4 (ad.ja m.c)^ah n5 (ad.jo m.b)^ah n6 (ad.gx m.q))):=
 bF λw0 S R h=>by
  refine aD h λx w h=>?_;refine ae (λc=>(by cases c)) λ_=>?_;repeat' (first
   |(refine aM h λw h=>?_)
   |(refine ac ?_)
   |(refine ay h rfl ?_)
   |(refine aj h rfl ?_)
   |(refine aO h ?_)
   |(refine aN h rfl ?_)
   |(refine aA h (by rfl) λw h=>?_)
   |(refine aD h λn w h=>?_)
   |(refine aV h λw h=>?_)
   |(refine be h rfl λw h=>?_;dsimp only[dE,over]at h)
   |(refine aq (y6 b n1 n2 n3 n4 n5 n6 m) h λr w h=>?_;obtain⟨hr,h⟩:=h.aP;(try dsimp only at hr h);try rw[hr])
   |(refine aq (p_ n5 m.b) h λr w h=>?_;obtain⟨hr,h⟩:=h.aP;(try dsimp only at hr h);try rw[hr])
   |(refine aq (BJ b n1 n2 n3 n4 n5 n6 m) h λr w h=>?_;obtain⟨hr,h⟩:=h.aP;(try dsimp only at hr h);try rw[hr])
   |(refine aq (BD n2 m.r) h λr w h=>?_;obtain⟨hr,h⟩:=h.aP;(try dsimp only at hr h);try rw[hr])
   |(refine aq (Kn n4 m.c) h λr w h=>?_;obtain⟨hr,h⟩:=h.aP;(try dsimp only at hr h);try rw[hr])
   |(refine aq (qf n3 m.p) h λr w h=>?_;obtain⟨hr,h⟩:=h.aP;(try dsimp only at hr h);try rw[hr])
   |(refine aq (C8 b n1 n2 n3 n4 n5 n6 m) h λr w h=>?_;obtain⟨hr,h⟩:=h.aP;(try dsimp only at hr h);try rw[hr]))
  exact au.aH rfl h.aK
end
end Lj

end Go.X
