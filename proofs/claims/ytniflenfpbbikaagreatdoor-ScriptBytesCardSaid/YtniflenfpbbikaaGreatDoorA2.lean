/- A logic of Go code. -/
import Derived.Test.YtniflenfpbbikaaGreatDoorA1
set_option linter.all false
namespace Go.X
variable {P:Program}
def flat(K:Ks)(xs:List (Ks.T K)):List Lf:=xs.flatMap (Ks.mk K)
theorem dp(K:Ks)(xs:List (Ks.T K)):(flat K xs).length=xs.length*K.length:=by
 induction xs with
 |nil=>simp[flat]
 |cons x xs ih=>simp only[flat,yb,eQ,Ks.len,fq]at*;rw[ih,kJ];omega
theorem rX(K:Ks)(xs ys:List (Ks.T K)):flat K (xs++ys)=flat K xs++flat K ys:=by simp[flat]
theorem zm(K:Ks):∀(xs:List (Ks.T K)) (j:Nat) (y:Ks.T K),xs[j]?=some y→((flat K xs).drop (j*K.length)).take K.length=Ks.mk K y
 |[],j,y,h=>by simp at h
 |x::xs,0,y,h=>by
  simp at h;subst h;simp only[flat,yb,DE,vX];rw[NQ (by rw[Ks.len];exact eM _),kF (by rw[Ks.len];exact eM _)]
 |x::xs,j+1,y,h=>by
  have:=zm K xs j y (by simpa using h);simp only[flat,yb];rw[show(j+1)*K.length=(Ks.mk K x).length+j*K.length by rw[Ks.len,kJ];omega,←Hq,Du];exact this
theorem sV(K:Ks)(xs:List (Ks.T K))(j:Nat)(y:Ks.T K)(h:xs[j]?=some y)(i:Nat)(hi:i<K.length):(flat K xs)[j*K.length+i]?=(Ks.mk K y)[i]?:=by
 have:=dm (λz=>z[i]?) (zm K xs j y h);simp only[pn,aF hi,tR]at this;exact this
theorem sW(K:Ks)(xs:List (Ks.T K))(n:Nat):flat K (xs.take n)=(flat K xs).take (n*K.length):=by
 induction n generalizing xs with
 |zero=>simp[flat]
 |succ n ih=>
  cases xs with
  |nil=>simp[flat]
  |cons x xs=>
   simp only[List.take_succ_cons,flat,yb]at*;rw[ih,show(n+1)*K.length=(Ks.mk K x).length+n*K.length by rw[Ks.len,kJ];omega,List.take_length_add_append]
theorem xe(K:Ks)(xs:List (Ks.T K))(n:Nat):flat K (xs.drop n)=(flat K xs).drop (n*K.length):=by
 induction n generalizing xs with
 |zero=>simp[flat]
 |succ n ih=>
  cases xs with
  |nil=>simp[flat]
  |cons x xs=>
   simp only[List.drop_succ_cons,flat,yb]at*;rw[ih,show(n+1)*K.length=(Ks.mk K x).length+n*K.length by rw[Ks.len,kJ];omega,←Hq,Du]
def Sl.ix(s:Sl)(j n:Nat):Pt:=⟨(s.p.getD ⟨0,0⟩).b,(s.p.getD ⟨0,0⟩).o+j*n⟩
def aQ(s:Sl)(K:Ks)(xs:List (Ks.T K)):SP where
 h w S R:=(jq w s K.length (flat K xs)∧s.len=xs.length)∧(∀k,S k↔s.own k)∧∀k,¬R k
 st:=by
  rintro w w' S R ⟨⟨h,hl⟩,hS,hR⟩ hw;refine⟨⟨?_,hl⟩,hS,hR⟩;rcases h with h|⟨q,C,hp,⟨T,hb⟩,hle,hc,r⟩
  ·exact .inl h
  ·exact .inr ⟨q,C,hp,⟨T,by rw[hw q.b (.inl ((hS _).2 ⟨q,hp,rfl,hc⟩))];exact hb⟩,hle,hc,r⟩
 nd:=by
  rintro w S R k ⟨⟨h,hl⟩,hS,hR⟩ hk;rcases hk with hk|hk
  ·obtain⟨q,hp,rfl,hc⟩:=(hS k).1 hk;rcases h with⟨_,h,_⟩|⟨q',C,hp',⟨T,hb⟩,_⟩
   ·exact absurd h hc
   ·rw[hp]at hp';cases hp';exact⟨_,hb,by simp[kU]⟩
  ·exact(hR k hk).elim
def aZ(s:Sl)(K:Ks)(xs:List (Ks.T K)):SP where
 h w S R:=(pA w s K.length (flat K xs)∧s.len=xs.length)∧(∀k,¬S k)∧∀k,R k↔(∃q,s.p=some q∧k=q.b)∧flat K xs≠[]
 st:=by
  rintro w w' S R ⟨⟨⟨h1,h2,h3⟩,hl⟩,hS,hR⟩ hw;refine⟨⟨⟨h1,h2,λq hq=>?_⟩,hl⟩,hS,hR⟩;have hr:=h3 q hq;by_cases hne:flat K xs=[]
  ·rw[hne];trivial
  ·have hk:=hw q.b (.inr ((hR _).2 ⟨⟨q,hq,rfl⟩,hne⟩));generalize flat K xs=ls at hr;generalize q.o=o at hr;clear hne h1 hR
   induction ls generalizing o with
   |nil=>trivial
   |cons l ls ih=>exact⟨by rw[←hr.1];exact World.cell?_of_block hk,ih _ hr.2⟩
 nd:=by
  rintro w S R k ⟨⟨⟨h1,h2,h3⟩,hl⟩,hS,hR⟩ hk;rcases hk with hk|hk
  ·exact(hS k hk).elim
  ·obtain⟨⟨q,hq,rfl⟩,hne⟩:=(hR k).1 hk;have hr:=h3 q hq;cases hf:flat K xs with
   |nil=>exact absurd hf hne
   |cons l ls=>
    rw[hf]at hr;have hc:=hr.1;cases hh:w.heap[q.b]? with
    |none=>simp[World.cell?,hh]at hc
    |some o=>
     refine⟨o,rfl,?_⟩;rintro rfl;simp[World.cell?,hh]at hc
class Rd(s:Sl)(F:SP)(K:outParam Ks)(xs:outParam (List (Ks.T K))):Prop where
 rd:∀w S R,F.h w S R→pA w s K.length (flat K xs)∧s.len=xs.length
 fp:∀w S R,F.h w S R→flat K xs≠[]→∀q,s.p=some q→S q.b∨R q.b
instance aar(s:Sl)(K:Ks)(xs:List (Ks.T K)):Rd s (aQ s K xs) K xs:=⟨λ_ _ _ h=>⟨h.1.1.read,h.1.2⟩,λw S R h hne q hq=>by
 refine .inl ((h.2.1 _).2 ⟨q,hq,rfl,λhc=>hne ?_⟩);rcases h.1.1 with⟨_,_,h3⟩|⟨_,_,_,_,_,h3,_⟩
 ·exact h3
 ·exact absurd hc h3⟩
instance RJ(s:Sl)(K:Ks)(xs:List (Ks.T K)):Rd s (aZ s K xs) K xs:=⟨λ_ _ _ h=>⟨h.1.1,h.1.2⟩,λ_ _ _ h hne q hq=>.inr ((h.2.2 _).2 ⟨⟨q,hq,rfl⟩,hne⟩)⟩
instance (priority:=900) RI(s:Sl)(K:Ks)(xs:List (Ks.T K))(A F:SP)[t:Rd s A K xs]:Rd s (A^F) K xs:=⟨λ_ _ _ ⟨_,_,_,_,h,_⟩=>t.rd _ _ _ h,λ_ _ _ ⟨_,_,_,_,h,_,hS,hR,_⟩ hne q hq=>(t.fp _ _ _ h hne q hq).imp (λx=>(hS _).2 (.inl x)) (λx=>(hR _).2 (.inl x))⟩
instance (priority:=500) Od(s:Sl)(K:Ks)(xs:List (Ks.T K))(A F:SP)[t:Rd s F K xs]:Rd s (A^F) K xs:=⟨λ_ _ _ ⟨_,_,_,_,_,h,_⟩=>t.rd _ _ _ h,λ_ _ _ ⟨_,_,_,_,_,h,hS,hR,_⟩ hne q hq=>(t.fp _ _ _ h hne q hq).imp (λx=>(hS _).2 (.inr x)) (λx=>(hR _).2 (.inr x))⟩
class mT(s:Sl)(F:SP)(K:outParam Ks)(xs:outParam (List (Ks.T K)))(G:outParam SP):Prop where
 le:Le F (aQ s K xs^G)
instance Wt(s:Sl)(K:Ks)(xs:List (Ks.T K))(G:SP):mT s (aQ s K xs^G) K xs G:=⟨Le.rfl⟩
instance (priority:=900) Wu(s:Sl)(K:Ks)(xs:List (Ks.T K)):mT s (aQ s K xs) K xs bg:=⟨aG _⟩
instance (priority:=400) YC(s:Sl)(K:Ks)(xs:List (Ks.T K))(B C F G:SP)[t:mT s (B^C^F) K xs G]:mT s ((B^C)^F) K xs G:=⟨(bS _ _ _).trans t.le⟩
instance (priority:=500) Td(s:Sl)(K:Ks)(xs:List (Ks.T K))(B F G:SP)[t:mT s F K xs G]:mT s (B^F) K xs (B^G):=⟨(ba Le.rfl t.le).trans (iX _ _ _)⟩
section
variable {w0 w:World} {S0 R0:Nat→Prop} {F G A B:SP} {K:Ks} {xs:List (Ks.T K)} {s:Sl}
theorem au.rd(h:au w0 S0 R0 w F)[t:Rd s F K xs]:pA w s K.length (flat K xs)∧s.len=xs.length:=by
 obtain⟨S,R,hF,_⟩:=h.own;exact t.rd _ _ _ hF
theorem au.Ep(h:au w0 S0 R0 w (aQ s K xs^F)):jq w s K.length (flat K xs)∧s.len=xs.length∧
  ∀(w':World) (s':Sl) (K':Ks) (ys:List (Ks.T K')),ju s.own w w'→jq w' s' K'.length (flat K' ys)→s'.len=ys.length→(∀k,s'.own k→s.own k∨w.heap.size≤k)→au w0 S0 R0 w' (X.aQ s' K' ys^F):=by
 obtain⟨S,R,⟨h1,hS,hR⟩,_,h2⟩:=h.part;exact⟨h1.1,h1.2,λw' s' K' ys he hb hl hg=>h2 w' (X.aQ s' K' ys) s'.own (λ_=>False) (he.mono λk _ hk=>(hS k).2 hk) ⟨⟨hb,hl⟩,λ_=>mC,λ_ h=>h⟩ (λk hk=>(hg k hk).imp (hS k).2 id) (λ_ h=>h.elim)⟩
theorem bT{i:Int}{n:Nat}{k:Pt→WP}(h:au w0 S0 R0 w F)[t:Rd s F K xs](h0:0≤i)(h1:i.toNat<xs.length)(hk:k (s.ix i.toNat n) w):idx s i n k w:=by
 obtain⟨⟨_,hn,_⟩,hl⟩:=h.rd (s:=s);cases hp:s.p with
 |none=>have:=hn hp;omega
 |some q=>
  refine⟨q,hp,⟨h0,by omega⟩,?_⟩;have:s.ix i.toNat n=⟨q.b,q.o+i.toNat*n⟩:=by simp[Sl.ix,hp]
  rw[←this];exact hk
theorem B9{b:Nat}:∀{o:Nat} {ls ms:List Lf},Reads w b o (ls++ms)→Reads w b (o+ls.length) ms
 |_,[],_,h=>h
 |o,l::ls,ms,h=>by
  have:=B9 (o:=o+1) (ls:=ls) h.2;rw[show o+1+ls.length=o+(l::ls).length by simp;omega]at this;exact this
theorem Az{b:Nat}:∀{o:Nat} {ls ms:List Lf},Reads w b o (ls++ms)→Reads w b o ls
 |_,[],_,_=>trivial
 |_,_::_,_,h=>⟨h.1,Az h.2⟩
theorem uL{b o f n:Nat}{ls:List Lf}(h:Reads w b o ls)(hf:f≤ls.length):Reads w b (o+f) ((ls.drop f).take n):=by
 have h1:Reads w b o (ls.take f++ls.drop f):=by rw[G_];exact h
 have h2:=B9 h1;rw[fU,Nat.min_eq_left hf]at h2;have h3:Reads w b (o+f) ((ls.drop f).take n++(ls.drop f).drop n):=by rw[G_];exact h2
 exact Az h3
theorem IZ{j f n:Nat}{y:Ks.T K}(h:pA w s K.length (flat K xs))(hy:xs[j]?=some y)(hf:f≤K.length):Reads w (s.ix j K.length).b ((s.ix j K.length).o+f) (((Ks.mk K y).drop f).take n):=by
 have hj:j<xs.length:=(ie.1 hy).1;obtain⟨h1,h2,h3⟩:=h;by_cases hK:K.length=0
 ·have:Ks.mk K y=[]:=nX (by rw[Ks.len];exact hK);rw[this];simp;trivial
 ·cases hp:s.p with
  |none=>
   have:=h2 hp;rw[this,dp,DE]at h1;rcases Hn.1 h1 with h1|h1
   ·omega
   ·exact absurd h1 hK
  |some q=>
   have hr:=h3 q hp;have hle:j*K.length≤(flat K xs).length:=(by rw[dp];exact qv _ (Nat.le_of_lt hj));have h4:=uL (n:=K.length) hr hle;rw[zm K xs j y hy]at h4;have h5:=uL (n:=n) h4 (f:=f) (by rw[Ks.len];exact hf);simp only[Sl.ix,hp,Hk];exact h5
theorem eh{p:Pt}{ks:Ks}{k:Ks.T ks→WP}{x:Ks.T ks}(h:au w0 S0 R0 w F)(s:Sl)[t:Rd s F K xs](j f:Nat)(y:Ks.T K)(hy:xs[j]?=some y)(hp:p=⟨(s.ix j K.length).b,(s.ix j K.length).o+f⟩)(hf:f≤K.length)
  (hx:Ks.un ks (((Ks.mk K y).drop f).take ks.length)=some x) (hk:k x w):ld ks p k w:=by
 refine⟨x,?_,hk⟩;rw[Ks.iK hx,hp];exact IZ (h.rd (s:=s)).1 hy hf
theorem AW{p:Pt}{ls:List Lf}{A:WP}(h:au w0 S0 R0 w F)(s:Sl)[t:Rd s F K xs](j f:Nat)(y:Ks.T K)(hy:xs[j]?=some y)(hp:p=⟨(s.ix j K.length).b,(s.ix j K.length).o+f⟩)(hf:f≤K.length)
  (hx:((Ks.mk K y).drop f).take ls.length=ls) (hk:A w):cw p ls A w:=by
 refine⟨?_,hk⟩;rw[hp,←hx];exact IZ (h.rd (s:=s)).1 hy hf
theorem FR(L M N:List Lf)(o:Nat)(h1:L.length=N.length)(hb:o+M.length≤L.length)(h2:∀i,i<N.length→N[i]?=if i<o then L[i]? else if i<o+M.length then M[i-o]? else L[i]?):fa L o M=N:=by
 apply List.ext_getElem?;intro i;by_cases hi:i<N.length
 ·rw[lx hb,h2 i hi]
 ·rw[q_ (by rw[kW hb];omega),q_ (by omega)]
theorem MG{j:Nat}{y z:Ks.T K}{f:Nat}{ls:List Lf}(hy:xs[j]?=some y)(hz:Ks.mk K z=fa (Ks.mk K y) f ls)(hf:f+ls.length≤K.length):flat K (xs.set j z)=fa (flat K xs) (j*K.length+f) ls:=by
 have hj:j<xs.length:=(ie.1 hy).1;have hb:j*K.length+f+ls.length≤(flat K xs).length:=by
  rw[dp];have:(j+1)*K.length≤xs.length*K.length:=qv _ hj;rw[kJ]at this;omega
 by_cases hK:K.length=0
 ·have h1:flat K (xs.set j z)=[]:=nX (by rw[dp,hK,Ht]);have h2:flat K xs=[]:=nX (by rw[dp,hK,Ht]);have h3:ls=[]:=nX (by omega);rw[h1,h2,h3];simp[fa]
 ·symm
  refine FR _ _ _ _ (by simp[dp]) hb λi hi=>?_;rw[dp,rb]at hi;obtain⟨a,ha⟩:∃a,a=i/K.length:=⟨_,rfl⟩;obtain⟨c,hc⟩:∃c,c=i%K.length:=⟨_,rfl⟩;have hi':i=a*K.length+c:=by rw[ha,hc,Al];exact(Hm i K.length).symm
  have hcl:c<K.length:=by rw[hc];exact DF _ (by omega)
  have hal:a<xs.length:=by rw[ha];exact Nat.div_lt_of_lt_mul (by rw[Al];exact hi)
  have ex:xs[a]?=some xs[a]:=gG hal;rw[hi',sV K xs a xs[a] ex c hcl];by_cases haj:a=j
  ·subst haj;have hyy:xs[a]=y:=by rw[ex]at hy;exact kG hy
   rw[sV K (xs.set a z) a z (by simp[hal]) c hcl,hz,hyy,lx (by rw[Ks.len];exact hf)];by_cases h1:c<f
   ·rw[aF h1,aF (show a*K.length+c<a*K.length+f by omega)]
   ·rw[aw h1,aw (show ¬a*K.length+c<a*K.length+f by omega)];by_cases h2:c<f+ls.length
    ·rw[aF h2,aF (show a*K.length+c<a*K.length+f+ls.length by omega)];congr 1;omega
    ·rw[aw h2,aw (show ¬a*K.length+c<a*K.length+f+ls.length by omega)]
  ·rw[sV K (xs.set j z) a xs[a] (by rw[ya (mD haj)];exact ex) c hcl];rcases Nat.lt_or_gt_of_ne haj with hlt|hgt
   ·have:(a+1)*K.length≤j*K.length:=qv _ hlt;rw[kJ]at this;rw[aF (by omega)]
   ·have:(j+1)*K.length≤a*K.length:=qv _ hgt;rw[kJ]at this;rw[aw (by omega),aw (by omega)]
theorem mE{p:Pt}{ls:List Lf}{A:WP}(h:au w0 S0 R0 w F)(s:Sl)[t:mT s F K xs G](j f:Nat)(y z:Ks.T K)(hy:xs[j]?=some y)(hp:p=⟨(s.ix j K.length).b,(s.ix j K.length).o+f⟩)(hf:f+ls.length≤K.length)(hls:ls≠[])
  (hz:Ks.mk K z=fa (Ks.mk K y) f ls) (hk:∀w',au w0 S0 R0 w' (X.aQ s K (xs.set j z)^G)→A w'):st p ls A w:=by
 obtain⟨h1,h2,h3⟩:=(h.le t.le).Ep;have hj:j<xs.length:=(ie.1 hy).1;have hlp:0<ls.length:=List.length_pos_iff.2 hls;rcases h1 with⟨e1,_,_⟩|⟨q,C,hq,hb,hle,hc,hC,hL,hg⟩
 ·omega
 have hfl:=dp K xs;have hjk:(j+1)*K.length≤xs.length*K.length:=qv _ hj;rw[kJ]at hjk;have hcap:s.len*K.length≤s.cap*K.length:=qv _ hle;rw[h2]at hcap;have hpo:p=⟨q.b,q.o+(j*K.length+f)⟩:=by rw[hp];simp[Sl.ix,hq];omega
 have hbound:q.o+(j*K.length+f)+ls.length≤C.length:=by omega
 refine⟨C,by rw[hpo];exact hb,by rw[hpo];exact hbound,λw' he hb' _=>hk w' ?_⟩;rw[hpo]at he hb';refine h3 w' s K (xs.set j z) (he.mono λk _ hk=>⟨q,hq,hk,hc⟩) (.inr ⟨q,_,hq,hb',hle,hc,by rw[kW hbound];exact hC,by rw[dp,rb,h2],λi hi=>?_⟩) (by rw[rb];exact h2) (λk hk=>.inl hk);rw[dp,rb]at hi;rw[MG hy hz hf,lx hbound,lx (by omega)];by_cases c1:i<j*K.length+f
 ·rw[aF (by omega),aF c1,hg i (by omega)]
 ·rw[aw (by omega),aw c1];by_cases c2:i<j*K.length+f+ls.length
  ·rw[aF (by omega),aF c2];congr 1;omega
  ·rw[aw (by omega),aw c2,hg i (by omega)]
theorem Rz:jq w ⟨none,0,0⟩ K.length (flat K []):=.inl ⟨rfl,rfl,rfl⟩
theorem au.nil(h:au w0 S0 R0 w F)(K:Ks):au w0 S0 R0 w (X.aQ ⟨none,0,0⟩ K []^F):=by
 have h:=h.le ((aG F).trans (aU _ _));obtain⟨S,R,_,_,h2⟩:=h.part;exact h2 w (X.aQ ⟨none,0,0⟩ K []) (λ_=>False) (λ_=>False) (ju.refl _ _) ⟨⟨Rz,rfl⟩,λk=>⟨λh=>h.elim,λ⟨q,hq,_⟩=>by cases hq⟩,λ_ h=>h⟩ (λ_ h=>h.elim) (λ_ h=>h.elim)
theorem au.ct(h:au w0 S0 R0 w F)(b:Nat){L:List Lf}[t:mU b F L G](K:Ks)(ys:List (Ks.T K))(hL:L=flat K ys)(hn:ys≠[]):au w0 S0 R0 w (X.aQ ⟨some ⟨b,0⟩,ys.length,ys.length⟩ K ys^G):=by
 obtain⟨S,R,⟨h1,hS,hR⟩,_,h2⟩:=(h.le t.le).part;have hlen:ys.length≠0:=λhh=>hn (nX hh);refine h2 w _ S (λ_=>False) (ju.refl _ _) ⟨⟨.inr ⟨⟨b,0⟩,L,rfl,h1,eM _,hlen,by rw[hL,dp];simp,by rw[dp],λi hi=>by rw[hL];simp⟩,rfl⟩,λk=>?_,λ_ h=>h⟩ (λ_ h=>.inl h) (λ_ h=>h.elim);rw[hS k];exact⟨λhk=>⟨⟨b,0⟩,rfl,hk,hlen⟩,λ⟨q,hq,hk,_⟩=>by cases hq;exact hk⟩
theorem dF{n:Nat}{x:Sl}{ys:List (Ks.T K)}{k:Sl→WP}(h:au w0 S0 R0 w F)[t:mT s F K xs G][r:Rd x F K ys](hn:n=K.length)(hl:xs.length+ys.length≤4294967296)
  (hk:∀s' w',s'.len=xs.length+ys.length→au w0 S0 R0 w' (X.aQ s' K (xs++ys)^G)→k s' w'):mi n s x k w:=by
 obtain⟨h1,h2,h3⟩:=(h.le t.le).Ep;obtain⟨r1,r2⟩:=h.rd (s:=x);subst hn;refine⟨_,_,h1,r1,by rw[h2,r2];exact hl,λw' s' e1 e2 e3 e4 _ _=>hk s' w' (by rw[e3,h2,r2]) (h3 w' s' K _ e1 (by rw[rX];exact e2) (by rw[e3,h2,r2,eQ]) e4)⟩
theorem au.sub(h:au w0 S0 R0 w F)(s:Sl)[t:mT s F K xs G]{l hh m:Nat}(h1:l≤hh)(h2:hh≤xs.length)(h3:hh≤m)(h4:m≤s.cap):au w0 S0 R0 w (X.aQ (s.sub l hh m K.length) K ((xs.take hh).drop l)^G):=by
 obtain⟨e1,e2,e3⟩:=(h.le t.le).Ep;have hlen:(s.sub l hh m K.length).len=hh-l:=rfl;have hcap:(s.sub l hh m K.length).cap=m-l:=rfl;refine e3 w _ K _ (ju.refl _ _) ?_ (by rw[hlen,nL,fU];omega) ?_
 ·rcases e1 with⟨c1,c2,c3⟩|⟨q,C,hq,hb,hle,hc,hC,hL,hg⟩
  ·refine .inl ⟨by rw[hlen];omega,by rw[hcap];omega,?_⟩;have:xs.length=0:=by omega
   have:xs=[]:=nX this;rw[this];simp[flat]
  ·by_cases hml:m=l
   ·refine .inl ⟨by rw[hlen];omega,by rw[hcap];omega,?_⟩;have:hh=l:=by omega
    rw[this,FA (by rw[fU];omega)];rfl
   ·have hp:(s.sub l hh m K.length).p=some ⟨q.b,q.o+l*K.length⟩:=(by simp[Sl.sub,hml,hq]);have m1:m*K.length≤s.cap*K.length:=qv _ h4;have m2:(m-l)*K.length+l*K.length=m*K.length:=(by rw[←kJ];congr 1;omega);have m3:(hh-l)*K.length+l*K.length=hh*K.length:=(by rw[←kJ];congr 1;omega);have m4:hh*K.length≤xs.length*K.length:=qv _ h2;refine .inr ⟨_,C,hp,hb,by rw[hlen,hcap];omega,by rw[hcap];omega,by rw[hcap];show q.o+l*K.length+(m-l)*K.length≤C.length;omega,by rw[dp,hlen,nL,fU];congr 1;omega,λi hi=>?_⟩;rw[dp,nL,fU,Nat.min_eq_left h2]at hi;rw[xe,sW,tR,pn,aF (by omega)];rw[←hg _ (by rw[dp];omega)];show C[q.o+l*K.length+i]?=_
    congr 1;omega
 ·rintro k ⟨q,hq,hk,hc⟩;rw[hcap]at hc;have hml:m≠l:=by omega
  simp only[Sl.sub,aw hml]at hq;cases hp:s.p with
  |none=>rw[hp]at hq;cases hq
  |some q'=>
   rw[hp]at hq;cases hq;exact .inl ⟨q',hp,hk,by omega⟩
end
end Go.X

namespace Go.X
variable {P:Program}
def over:List Lf→List Lf→List Lf
 |_::L,l::ls=>l::over L ls
 |L,[]=>L
 |[],_::_=>[]
def dE:List Lf→Nat→List Lf→List Lf
 |L,0,ls=>over L ls
 |a::L,o+1,ls=>a::dE L o ls
 |[],_+1,_=>[]
theorem IW:∀{L ls:List Lf},ls.length≤L.length→over L ls=ls++L.drop ls.length
 |[],[],_=>rfl
 |[],_::_,h=>by simp at h
 |_::_,[],_=>rfl
 |_::L,l::ls,h=>by simp only[over,fq,List.drop_succ_cons,nK];rw[IW (by simpa using h)]
theorem DZ:∀{L:List Lf} {o:Nat} {ls:List Lf},o+ls.length≤L.length→dE L o ls=fa L o ls
 |L,0,ls,h=>by simp only[dE,fa];rw[IW (by simpa using h)];simp
 |a::L,o+1,ls,h=>by
  simp only[dE,fa];rw[DZ (by simp at h;omega),fa];simp[Nat.add_right_comm]
 |[],o+1,ls,h=>by simp at h
section
variable {w0 w:World} {S0 R0:Nat→Prop} {F G A B:SP}
theorem ac{q:Pt}{K:Pt→WP}(h:K q w):az (some q) K w:=⟨q,rfl,h⟩
theorem be{p:Pt}{ls:List Lf}{A:WP}{L:List Lf}(h:au w0 S0 R0 w F)[t:mU p.b F L G](hx:Nat.ble (p.o+ls.length) L.length=true)(k:∀w',au w0 S0 R0 w' (X.ah p.b (dE L p.o ls)^G)→A w'):st p ls A w:=by
 have hx:=Ha hx;exact YN h hx λw' h'=>k w' (by rw[DZ hx];exact h')
theorem aA{b:Nat}{ls:List Lf}{A:WP}{L:List Lf}(h:au w0 S0 R0 w F)[t:mU b F L G](hx:ls.length=L.length)(k:∀w',au w0 S0 R0 w' (X.ah b ls^G)→A w'):st ⟨b,0⟩ ls A w:=
 YN (p:=⟨b,0⟩) h (by show 0+_≤_;omega) λw' h'=>k w' (by
  have e:fa L 0 ls=ls:=by simp[fa,hx]
  have h':au w0 S0 R0 w' (X.ah b (fa L 0 ls)^G):=h';rw[e]at h';exact h')
theorem au.aH{p:Prop}{A:SP}(hp:p)(h:au w0 S0 R0 w A):au w0 S0 R0 w (X.br p A):=h.le (λ_ _ _ h=>⟨hp,h⟩)
theorem au.gI{α:Type}{f:α→SP}(a:α)(h:au w0 S0 R0 w (f a)):au w0 S0 R0 w (X.ex f):=h.le (λ_ _ _ h=>⟨a,h⟩)
theorem cZ{cs:List CK}{x₀:Ks.T cs}{B:(Ks.T cs→WP)→Ks.T cs→WP}(I:Ks.T cs→SP)(φ:Ks.T cs→Prop)(μ:Ks.T cs→Nat)(h:au w0 S0 R0 w (I x₀))(h0:φ x₀)
  (hr:∀x w,φ x→au w0 S0 R0 w (I x)→B (λy w'=>(φ y∧au w0 S0 R0 w' (I y))∧μ y<μ x) x w):loop cs x₀ B w:=
 ⟨λx w=>φ x∧au w0 S0 R0 w (I x),λx _=>μ x,⟨h0,h⟩,λx w hx=>hr x w hx.1 hx.2⟩
theorem aS{cs:List CK}{A:(Ks.T cs→WP)→WP}{K:Ks.T cs→WP}(_h:au w0 S0 R0 w F)(J:Ks.T cs→SP)(φ:Ks.T cs→Prop)(hK:∀x w,φ x→au w0 S0 R0 w (J x)→K x w)(hA:A (λx w=>φ x∧au w0 S0 R0 w (J x)) w):join cs A K w:=
 ⟨λx w=>φ x∧au w0 S0 R0 w (J x),λx w hx=>hK x w hx.1 hx.2,hA⟩
theorem YH{f:FuncId}{args:List V1}{rs:List Sh}{Pre:SP}{Post:Rs.T rs→SP}{W:Nat→(Rs.T rs→WP)→WP}(hc:∀(R:Rs.T rs→WP) (w:World),W w.heap.size R w→ky P f (args.map V1.enc) w λv w'=>∃x,v=(nb (Rs.mk rs x)).enc∧R x w')
  (h:∀w S R,au w S R w Pre→W w.heap.size (λx w'=>au w S R w' (Post x)) w):wF P f args rs Pre Post:=
 λw S R hp=>hc _ w (h w S R (td hp))
theorem Th{f:FuncId}{args:List V1}{rs:List Sh}{Pre:SP}{Post:Rs.T rs→SP}{W:(Rs.T rs→WP)→WP}(hc:∀(R:Rs.T rs→WP) (w:World),W R w→ky P f (args.map V1.enc) w λv w'=>∃x,v=(nb (Rs.mk rs x)).enc∧R x w')
  (h:∀w S R,au w S R w Pre→W (λx w'=>au w S R w' (Post x)) w):wF P f args rs Pre Post:=
 λw S R hp=>hc _ w (h w S R (td hp))
theorem wF.g{f:FuncId}{args caps:List V1}{rs:List Sh}{Pre:SP}{Post:Rs.T rs→SP}(t:wF P f (args++caps) rs Pre Post)(he:JW P f=true:=by kernel_rfl):Lx P (.mk (.func f) [] (caps.map V1.enc)) args rs Pre Post:=λw S R hp=>by
 have:=(t w S R hp).e he;rw[mA]at this;exact this
theorem wF.le{f:FuncId}{args:List V1}{rs:List Sh}{Pre Pre':SP}{Post Post':Rs.T rs→SP}(t:wF P f args rs Pre Post)(h1:Le Pre' Pre)(h2:∀x,Le (Post x) (Post' x)):wF P f args rs Pre' Post':=
 λw S R hp=>(t w S R (h1 _ _ _ hp)).mono λ_ _ ⟨x,hv,ho⟩=>⟨x,hv,ho.le (h2 x)⟩
theorem rG.frame{f:Fv}{args:List V1}{rs:List Sh}{Pre:SP}{Post:Rs.T rs→SP}(t:Lx P f args rs Pre Post)(h:au w0 S0 R0 w (Pre^G)):rG P f (args.map V1.enc) w λv w'=>mg w w'∧∃x,v=(nb (Rs.mk rs x)).enc∧au w0 S0 R0 w' (Post x^G):=by
 obtain⟨S,R,h1,h2⟩:=h.call;exact(t w S R h1).mono λv w' ⟨x,hv,ho⟩=>⟨(h2 w' _ ho).1,x,hv,(h2 w' _ ho).2⟩
def either(A B:SP):SP:=ex λb:Bool=>cond b A B
def Iter(P:Program)(fv:Fv)(C:SP)(rs:List Sh)(xs:List (Rs.T rs)):Prop:=
 ∀(y:Fv) (I:Nat→SP) (D:SP),(∀i x,xs[i]?=some x→Ba P y (Rs.mk rs x) [.lf .bool] (I i) (λc=>cond c (I (i+1)) D))→
  Lx P fv [.lf (.fn y)] [] (C^I 0) (λ_=>C^either (I xs.length) D)
theorem au.Kk{l:Nat}{o:Obj}(h:au w0 S0 R0 w (obj l o^F)):w.heap[l]?=some o∧(∀(w':World) (o':Obj),ju (Er l) w w'→w'.heap[l]?=some o'→o'≠kU→au w0 S0 R0 w' (X.obj l o'^F))∧∀w',ju (Er l) w w'→au w0 S0 R0 w' F:=by
 obtain⟨S,R,⟨h1,hS,hR⟩,_,h2⟩:=h.part;refine⟨h1.1,λw' o' he ho hne=>?_,λw' he=>?_⟩
 ·exact h2 w' (X.obj l o') S (λ_=>False) (he.mono λk _ hk=>(hS k).2 hk) ⟨⟨ho,hne⟩,hS,λ_ h=>h⟩ (λ_ h=>.inl h) (λ_ h=>h.elim)
 ·exact(h2 w' bg (λ_=>False) (λ_=>False) (he.mono λk _ hk=>(hS k).2 hk) ⟨λ_ h=>h,λ_ h=>h⟩ (λ_ h=>h.elim) (λ_ h=>h.elim)).drop
theorem pr{fv:Fv}{C:SP}{rs:List Sh}{xs:List (Rs.T rs)}{B:Rs.T rs→(WP→WP)→WP→(Nat→WP)→WP}{K:Nat→WP}(it:Iter P fv C rs xs)(I:Nat→SP)(D:Nat→SP)(h:au w0 S0 R0 w F)[tk:Take (C^I 0) F G]
  (hb:∀i x,xs[i]?=some x→∀(w:World) (S R:Nat→Prop) (BX:WP→WP) (next:WP) (jump:Nat→WP) (rdy bsy:SP),
   (∀{A:WP} {w':World} {F G:SP},au w S R w' F→∀[_t:Take rdy F G],(∀w'',au w S R w'' (bsy^G)→A w'')→BX A w')→
   (∀{w':World} {F G:SP},au w S R w' F→∀[_t:Take (bsy^I (i+1)) F G],next w')→
   (∀{w':World} {F G:SP} (j:Nat),j≠0→au w S R w' F→∀[_t:Take (bsy^D j) F G],jump j w')→
   au w S R w (rdy^I i)→B x BX next jump w)
  (hK:∀w',au w0 S0 R0 w' (C^I xs.length^G)→K 0 w') (hJ:∀j w',j≠0→au w0 S0 R0 w' (C^D j^G)→K j w'):qP P fv rs B K w:=by
 intro w1 l st busy hst hbu he hl1 hl2 hl0 hround;have h1:au w0 S0 R0 w1 (obj l (st 0)^(C^I 0)^G):=
  (h.le tk.le).more he (S':=λk=>k=l) ⟨⟨hl0,hst 0⟩,λ_=>mC,λ_ h=>h⟩ (λk hk=>by rw[hk];exact hl1)
 have hit:=it (.mk (.yield l) [] []) (λi=>obj l (st 0)^I i) (ex λj=>br (j≠0) (obj l (st j)^D j)) ?_
 ·have h2:au w0 S0 R0 w1 ((C^obj l (st 0)^I 0)^G):=h1.le ((dh _ _ _).trans (ba (iX _ _ _) Le.rfl));refine(rG.frame hit h2).mono λv w2 ⟨hd,x,hv,ho⟩=>⟨hd,?_⟩;have ho:au w0 S0 R0 w2 (either (obj l (st 0)^I xs.length) (ex λj=>br (j≠0) (obj l (st j)^D j))^C^G):=ho.le ((ba (aU _ _) Le.rfl).trans (bS _ _ _));obtain⟨b,ho⟩:=ho.lS;cases b with
  |true=>
   have ho:au w0 S0 R0 w2 (obj l (st 0)^I xs.length^C^G):=ho.le (bS _ _ _);obtain⟨e1,_,e3⟩:=ho.Kk;exact⟨0,e1,λw3 he3 _=>hK w3 ((e3 w3 he3).le (iX _ _ _))⟩
  |false=>
   obtain⟨j,ho⟩:=au.lS (f:=λj=>br (j≠0) (X.obj l (st j)^D j)) ho;obtain⟨hj,ho⟩:=ho.aP;have ho:au w0 S0 R0 w2 (obj l (st j)^D j^C^G):=ho.le (bS _ _ _);obtain⟨e1,_,e3⟩:=ho.Kk;exact⟨j,e1,λw3 he3 _=>hJ j w3 hj ((e3 w3 he3).le (iX _ _ _))⟩
 ·intro i x hx W S R hp;have hW:au W S R W (obj l (st 0)^I i):=td hp;refine hround x W _ ?_ hW.Kk.1;refine hb i x hx W S R _ _ _ (obj l (st 0)) (obj l busy) ?_ ?_ ?_ hW
  ·intro A w' F G hF t k;obtain⟨e1,e2,_⟩:=(hF.le t.le).Kk;exact⟨e1,λW1 h1 h2 _=>k W1 (e2 W1 _ h1 h2 hbu)⟩
  ·intro w' F G hF t;have hF:=(hF.le t.le).le (bS _ _ _);obtain⟨e1,e2,_⟩:=hF.Kk;exact⟨e1,λW1 h1 h2 _=>⟨true,rfl,((e2 W1 _ h1 h2 (hst 0)).le (dh _ _ _)).bq⟩⟩
  ·intro w' F G j hj hF t;have hF:=(hF.le t.le).le (bS _ _ _);obtain⟨e1,e2,_⟩:=hF.Kk;exact⟨e1,λW1 h1 h2 _=>⟨false,rfl,au.gI (f:=λj=>br (j≠0) (X.obj l (st j)^D j)) j (au.aH hj ((e2 W1 _ h1 h2 (hst j)).le (dh _ _ _)).bq)⟩⟩
end
end Go.X

namespace Go.X
variable {P:Program}
class nt(p:SP):Prop where
 SV:∀w S R,p.h w S R→∀k,¬R k
instance:nt bg:=⟨λ_ _ _ h=>h.2⟩
instance(b:Nat)(L:List Lf):nt (ah b L):=⟨λ_ _ _ h=>h.2.2⟩
instance(s:Sl)(K:Ks)(xs:List (Ks.T K)):nt (aQ s K xs):=⟨λ_ _ _ h=>h.2.2⟩
instance(A B:SP)[a:nt A][b:nt B]:nt (A^B):=⟨λ_ _ _ ⟨_,_,_,_,h1,h2,_,hR,_⟩ k hk=>((hR k).1 hk).elim (a.SV _ _ _ h1 k) (b.SV _ _ _ h2 k)⟩
instance(p:Prop)(A:SP)[a:nt A]:nt (br p A):=⟨λ_ _ _ h=>a.SV _ _ _ h.2⟩
instance{α:Type}(f:α→SP)[a:∀x,nt (f x)]:nt (ex f):=⟨λ_ _ _ ⟨x,h⟩=>(a x).SV _ _ _ h⟩
class rj(A F:SP):Prop where
 V5:∀w S R,F.h w S R→∃R':Nat→Prop,A.h w (λ_=>False) R'∧∀k,R' k→S k∨R k
instance M5(F:SP):rj bg F:=⟨λ_ _ _ _=>⟨λ_=>False,⟨λ_ h=>h,λ_ h=>h⟩,λ_ h=>h.elim⟩⟩
instance W_(s:Sl)(K:Ks)(xs:List (Ks.T K))(F:SP)[t:Rd s F K xs]:rj (aZ s K xs) F:=⟨λw S R h=>⟨λk=>(∃q,s.p=some q∧k=q.b)∧flat K xs≠[],⟨t.rd w S R h,λ_ h=>h,λ_=>mC⟩,
 λk ⟨⟨q,hq,hk⟩,hne⟩=>by rw[hk];exact t.fp w S R h hne q hq⟩⟩
class So{α:Type}(xs:List α):Prop where
 nil:xs=[]
instance{α:Type}:So ([]:List α):=⟨rfl⟩
instance (priority:=1100) Yf(K:Ks)(xs:List (Ks.T K))(F:SP)[e:So xs]:rj (aZ ⟨none,0,0⟩ K xs) F:=⟨λw S R _=>by
 rw[e.nil];exact⟨λ_=>False,⟨⟨⟨by simp[flat],λ_=>rfl,λq hq=>by cases hq⟩,rfl⟩,λ_ h=>h,λk=>⟨λh=>h.elim,λh=>h.2 rfl⟩⟩,λ_ h=>h.elim⟩⟩
instance oc(A B F:SP)[a:rj A F][b:rj B F]:rj (A^B) F:=⟨λw S R h=>by
 obtain⟨R1,h1,k1⟩:=a.V5 w S R h;obtain⟨R2,h2,k2⟩:=b.V5 w S R h;exact⟨λk=>R1 k∨R2 k,⟨λ_=>False,R1,λ_=>False,R2,h1,h2,λk=>by simp,λ_=>mC,λ_ h=>h.elim,λ_ h=>h.elim,λ_ _ h=>h⟩,λk hk=>hk.elim (k1 k) (k2 k)⟩⟩
section
variable {w0 w:World} {S0 R0:Nat→Prop} {F G A B Q:SP}
theorem au.XT(h:au w0 S0 R0 w (A^G))(hl:rj Q G):∃S R,(A^Q).h w S R∧∀w' B,nt B→au w S R w' B→mg w w'∧au w0 S0 R0 w' (B^G):=by
 obtain⟨S,R,⟨S1,R1,S2,R2,h1,h2,hS',hR',d1,d2,d3⟩,hS,hR⟩:=h.own;obtain⟨R3,hq,hr⟩:=hl.V5 _ _ _ h2;refine⟨S1,λk=>R1 k∨R3 k,⟨S1,R1,λ_=>False,R3,h1,hq,λk=>by simp,λ_=>mC,λ_ _ h=>h,λk a b=>(hr k b).elim (d1 k a) (d2 k a),λ_ _ h=>h⟩,λw' B hN ho=>?_⟩;obtain⟨S',R',hB,hs,hr'⟩:=ho.own;refine⟨ho.ext.xV,?_⟩;have hsz:=h.ext.size;have hN':=hN.SV _ _ _ hB;refine⟨h.ext.trans' ho.ext λi hi hk=>(hS i ((hS' i).2 (.inl hk))).elim id λh=>absurd h (by omega),λk=>S' k∨S2 k,λk=>R' k∨R2 k,⟨S',R',S2,R2,hB,G.ext h2 ho.ext (λk a b=>d1 k b a) (λk a b=>d2 k b a),λ_=>mC,λ_=>mC,?_,?_,λk a=>absurd a (hN' k)⟩,?_,?_⟩
 ·intro k a b;rcases hs k a with hh|hh
  ·exact d1 k hh b
  ·have:=G.lt h2 (.inl b);omega
 ·intro k a b;rcases hs k a with hh|hh
  ·exact d2 k hh b
  ·have:=G.lt h2 (.inr b);omega
 ·rintro k (hk|hk)
  ·rcases hs k hk with hh|hh
   ·exact hS k ((hS' k).2 (.inl hh))
   ·exact .inr (by omega)
  ·exact hS k ((hS' k).2 (.inr hk))
 ·rintro k (hk|hk)
  ·exact absurd hk (hN' k)
  ·exact hR k ((hR' k).2 (.inr hk))
theorem bR{f:FuncId}{args:List V1}{rs:List Sh}{Post:Rs.T rs→SP}{K:Rs.T rs→WP}(t:wF P f args rs (A^Q) Post)(h:au w0 S0 R0 w F)[tk:Take A F G][hl:rj Q G][hN:∀x,nt (Post x)](k:∀x w',au w0 S0 R0 w' (Post x^G)→K x w'):call P f args rs K w:=by
 obtain⟨S,R,h1,h2⟩:=(h.le tk.le).XT hl;exact ky.mono (t w S R h1) λv w' ⟨x,hv,ho⟩=>⟨x,hv,(h2 w' _ (hN x) ho).1,k x w' (h2 w' _ (hN x) ho).2⟩
theorem V3{f:FuncId}{args:List V1}(t:wF P f args [.lf .bool] A (λr=>br (r=true) bg)){R:Nat→Prop}(h:A.h w (λ_=>False) R)(he:JW P f=true):
  Calls P f (args.map V1.enc).toArray w λe w'=>e=.returned (.bool true)∧RowKit.Below w.heap.size w w':=by
 refine callsIn_wide.1 (((t w _ R h).e he).2.mono ?_);rintro e w' ⟨v,rfl,x,rfl,ho⟩;obtain⟨S,R,h1,_⟩:=ho.own;have hx:x=true:=h1.1;subst hx;exact⟨rfl,(ho.ext.mono λ_ _ h=>h).below⟩
end
class ou{κ ν:Type}(kR:κ→ν→SP)(k:κ)(F:SP)(v:outParam ν)(G:outParam SP):Prop where
 le:Le F (kR k v^G)
instance Wx{κ ν:Type}(kR:κ→ν→SP)(k:κ)(v:ν)(G:SP):ou kR k (kR k v^G) v G:=⟨Le.rfl⟩
instance (priority:=900) Wy{κ ν:Type}(kR:κ→ν→SP)(k:κ)(v:ν):ou kR k (kR k v) v bg:=⟨aG _⟩
instance (priority:=500) Tf{κ ν:Type}(kR:κ→ν→SP)(k:κ)(v:ν)(B F G:SP)[t:ou kR k F v G]:ou kR k (B^F) v (B^G):=⟨(ba Le.rfl t.le).trans (iX _ _ _)⟩
instance (priority:=400) YE{κ ν:Type}(kR:κ→ν→SP)(k:κ)(v:ν)(B C F G:SP)[t:ou kR k (B^C^F) v G]:ou kR k ((B^C)^F) v G:=⟨(bS _ _ _).trans t.le⟩
section
variable {w0 w:World} {S0 R0:Nat→Prop} {F G H A B Q:SP}
end
end Go.X

namespace Go.X
theorem wi{n:Int}(h0:-9223372036854775808≤n)(h1:n<9223372036854775808):IntKind.i64.wrap n=n:=by simp[IntKind.wrap,IntKind.bits,IntKind.signed];omega
theorem wu{n:Int}(h0:0≤n)(h1:n<18446744073709551616):IntKind.u64.wrap n=n:=by simp[IntKind.wrap,IntKind.bits,IntKind.signed];omega
theorem Po(n:Int):0≤IntKind.u64.wrap n∧IntKind.u64.wrap n<18446744073709551616:=by simp[IntKind.wrap,IntKind.bits,IntKind.signed];omega
def fI{α:Type}(p:α→Bool)(xs:List α):Int:=match xs.findIdx? p with|some i=>(i:Int)|none=>-1
theorem EM{α:Type}{p:α→Bool}{xs:List α}{i:Nat}{x:α}(hx:xs[i]?=some x)(hp:p x=true)(hn:∀j y,j<i→xs[j]?=some y→p y=false):fI p xs=i:=by
 have:xs.findIdx? p=some i:=by
  rw[Fw];obtain⟨hl,he⟩:=ie.1 hx;refine⟨hl,by rw[he];exact hp,λj hj=>?_⟩;rw[hn j xs[j] hj (gG _)];simp
 rw[fI,this]
theorem vr{α:Type}{p:α→Bool}{xs:List α}(hn:∀y∈xs,p y=false):fI p xs=-1:=by
 have:xs.findIdx? p=none:=NX.2 hn;rw[fI,this]
theorem MC{α:Type}(p:α→Bool)(xs:List α):decide (fI p xs≥0)=xs.any p:=by
 unfold fI;cases h:xs.findIdx? p with
 |none=>
  have:=NX.1 h;simp only[];rw[show xs.any p=false by rw[List.any_eq_false];intro x hx;rw[this x hx];simp]
  rfl
 |some i=>
  obtain⟨hl,hp,_⟩:=Fw.1 h;simp only[];rw[show xs.any p=true by rw[List.any_eq_true];exact⟨xs[i],xv hl,hp⟩];exact nM (by omega)
theorem bV{α:Type}{xs:List α}{i:Nat}(h:i<xs.length):xs[i]?=some xs[i]:=gG h
section
variable {P:Program} {w0 w:World} {S0 R0:Nat→Prop} {F G A B:SP}
theorem ay{b:Nat}{ks:Ks}{k:Ks.T ks→WP}{L:List Lf}{x:Ks.T ks}(h:au w0 S0 R0 w F)[t:mU b F L G](hL:L=Ks.mk ks x)(hk:k x w):ld ks ⟨b,0⟩ k w:=
 aj (p:=⟨b,0⟩) h (by
  show Ks.un ks ((L.drop 0).take ks.length)=some x;rw[hL,vX,kF (by rw[Ks.len];exact eM _)];exact Jg) hk
theorem aO{b:Nat}{L:List Lf}{k:WP}(h:au w0 S0 R0 w F)[t:mU b F L G](hk:k w):cw ⟨b,0⟩ L k w:=
 aN (p:=⟨b,0⟩) h (by show(L.drop 0).take L.length=L;simp) hk
theorem eE{p:Pt}{K:Ks}{k:Ks.T K→WP}{xs:List (Ks.T K)}(h:au w0 S0 R0 w F)(s:Sl)[t:Rd s F K xs](j:Nat){y:Ks.T K}(hy:xs[j]?=some y)(hp:p=s.ix j K.length)(hk:k y w):ld K p k w:=
 eh h s j 0 y hy (by rw[hp];rfl) (iW _) (by rw[vX,kF (by rw[Ks.len];exact eM _)];exact Jg) hk
theorem au.vg(h:au w0 S0 R0 w (A^F))(B:SP):au w0 S0 R0 w (either A B^F):=h.tH (f:=λb:Bool=>cond b A B) true
theorem au.yu(h:au w0 S0 R0 w (B^F))(A:SP):au w0 S0 R0 w (either A B^F):=h.tH (f:=λb:Bool=>cond b A B) false
end
end Go.X

namespace Go.X
section
variable {P:Program} {w0 w:World} {S0 R0:Nat→Prop} {F G A B:SP} {K:Ks} {xs ys:List (Ks.T K)} {s:Sl}
def Ee(s:Sl):Prop:=s.vP=false∧(s.cap≠0→s.p≠none)
theorem Ee.some{s:Sl}{q:Pt}(h:s.p=some q):Ee s:=⟨Sl.zJ h,λ_ e=>by rw[h]at e;cases e⟩
theorem Ee.own{w:World}{s:Sl}{sz:Nat}{L:List Lf}(h:jq w s sz L):Ee s:=by
 rcases h with⟨_,h2,_⟩|⟨q,C,hp,_⟩
 ·exact⟨Sl.GV h2,λe=>absurd h2 e⟩
 ·exact Ee.some hp
theorem Ee.rq{w:World}{s:Sl}{sz:Nat}{L:List Lf}(h:pA w s sz L)(hl:s.len≠0):Ee s:=by
 cases hp:s.p with
 |none=>exact absurd (h.2.1 hp) hl
 |some q=>exact Ee.some hp
theorem wD{lo hi mx:Option Int}{n:Nat}{k:Sl→WP}(h:au w0 S0 R0 w F)[t:mT s F K xs G](l hh m:Nat)(hn:n=K.length)(hlo:wW lo 0 l)(hhi:wW hi s.len hh)(hmx:wW mx s.cap m)(h1:l≤hh)(h2:hh≤xs.length)(h3:hh≤m)(h4:m≤s.cap)
  (hk:∀s',s'.len=hh-l→s'.cap=m-l→au w0 S0 R0 w (X.aQ s' K ((xs.take hh).drop l)^G)→k s' w):D9 s lo hi mx n k w:=by
 subst hn;obtain⟨e1,_,_⟩:=(h.le t.le).Ep;exact⟨Ee.own e1,l,hh,m,hlo,hhi,hmx,⟨h1,h3,h4⟩,hk _ rfl rfl (h.sub s h1 h2 h3 h4)⟩
theorem au.nrm(h:au w0 S0 R0 w F)(s:Sl)[t:mT s F K xs G]:Ee s:=Ee.own (h.le t.le).Ep.1
theorem pg(h:au w0 S0 R0 w F)[t:mT s F K xs G]:s.len≤s.cap:=by
 obtain⟨h1,h2,_⟩:=(h.le t.le).Ep;rcases h1 with⟨a,b,_⟩|⟨_,_,_,_,c,_⟩<;>omega
theorem pA.sub{l hh m:Nat}(h:pA w s K.length (flat K xs))(hs:s.len=xs.length)(h1:l≤hh)(h2:hh≤xs.length)(h3:hh≤m):pA w (s.sub l hh m K.length) K.length (flat K ((xs.take hh).drop l))∧(s.sub l hh m K.length).len=((xs.take hh).drop l).length:=by
 obtain⟨e1,e2,e3⟩:=h;have hlen:(s.sub l hh m K.length).len=hh-l:=rfl;have hl2:((xs.take hh).drop l).length=hh-l:=by rw[nL,fU];omega
 refine⟨⟨by rw[dp,hl2,hlen],λhp=>?_,λq hq=>?_⟩,by rw[hlen,hl2]⟩
 ·rw[hlen];by_cases hml:m=l
  ·omega
  ·simp only[Sl.sub,aw hml,Option.map_eq_none_iff]at hp;have:=e2 hp;omega
 ·by_cases hml:m=l
  ·have:hh=l:=(by omega);rw[this,FA (by rw[fU];omega)];trivial
  ·simp only[Sl.sub,aw hml]at hq;cases hp:s.p with
   |none=>rw[hp]at hq;cases hq
   |some q'=>
    rw[hp]at hq;cases hq;have hr:=e3 q' hp;have hle:l*K.length≤(flat K xs).length:=by rw[dp];exact qv _ (by omega)
    have h4:=uL (n:=(hh-l)*K.length) hr hle;have e:flat K ((xs.take hh).drop l)=((flat K xs).drop (l*K.length)).take ((hh-l)*K.length):=by
     rw[xe,sW,List.drop_take]
     congr 1
     rw[Nat.sub_mul]
    rw[e];exact h4
theorem HA(s:Sl)(F:SP)(K:Ks)(xs:List (Ks.T K))[t:Rd s F K xs](l hh m:Nat)(h1:l≤hh)(h2:hh≤xs.length)(h3:hh≤m):Rd (s.sub l hh m K.length) F K ((xs.take hh).drop l) where
 rd w S R h:=pA.sub (t.rd w S R h).1 (t.rd w S R h).2 h1 h2 h3
 fp w S R h hne q hq:=by
  have hml:m≠l:=λe=>hne (by
   have:hh=l:=(by omega);rw[this,FA (by rw[fU];omega)];rfl)
  simp only[Sl.sub,aw hml]at hq;cases hp:s.p with
  |none=>rw[hp]at hq;cases hq
  |some q'=>
   rw[hp]at hq;cases hq;refine t.fp w S R h (λe=>hne ?_) q' hp;rw[xe,sW,e];simp
theorem H4{lo hi mx:Option Int}{n:Nat}{k:Sl→WP}(_h:au w0 S0 R0 w F)[t:Rd s F K xs](hN:Ee s)(l hh m:Nat)(hn:n=K.length)(hlo:wW lo 0 l)(hhi:wW hi s.len hh)(hmx:wW mx s.cap m)(h1:l≤hh)(h2:hh≤xs.length)(h3:hh≤m)(h4:m≤s.cap)
  (hk:(s.sub l hh m n).len=hh-l→Rd (s.sub l hh m n) F K ((xs.take hh).drop l)→k (s.sub l hh m n) w):D9 s lo hi mx n k w:=by
 subst hn;exact⟨hN,l,hh,m,hlo,hhi,hmx,⟨h1,h3,h4⟩,hk rfl (HA s F K xs l hh m h1 h2 h3)⟩
theorem wc{zs:List Lf}{z:Ks.T K}(hz:zs=Ks.mk K z)(m:Nat):kR m zs=flat K (List.replicate m z):=by
 induction m with
 |zero=>rfl
 |succ m ih=>simp only[kR,Hb,List.flatten_cons,flat,yb]at*;rw[ih,hz]
theorem K5{zs:List Lf}{z:Ks.T K}{k:WP}{l n:Nat}(h:au w0 S0 R0 w F)[t:mT s F K xs G](hn:n=K.length)(hz:zs=Ks.mk K z)(hl:l≤xs.length)
  (hk:∀w',au w0 S0 R0 w' (X.aQ s K (xs.take l++List.replicate (xs.length-l) z)^G)→k w'):Za zs (s.sub l xs.length s.cap n) k w:=by
 subst hn;obtain⟨e1,e2,e3⟩:=(h.le t.le).Ep;have hlen:(s.sub l xs.length s.cap K.length).len=xs.length-l:=rfl;by_cases hc0:xs.length-l=0
 ·refine .inl ⟨.inr (by rw[hlen];exact hc0),hk w ?_⟩;have:xs.take l++List.replicate (xs.length-l) z=xs:=by rw[hc0,List.replicate_zero,qw,kF (by omega)]
  rw[this];exact h.le t.le
 rcases e1 with⟨c1,c2,c3⟩|⟨q,C,hq,hb,hle,hc,hC,hL,hg⟩
 ·omega
 have hml:s.cap≠l:=by omega
 have hp:(s.sub l xs.length s.cap K.length).p=some ⟨q.b,q.o+l*K.length⟩:=by simp[Sl.sub,hml,hq]
 have hzl:zs.length=K.length:=by rw[hz,Ks.len]
 have m1:xs.length*K.length≤s.cap*K.length:=qv _ (by omega);have m2:(xs.length-l)*K.length+l*K.length=xs.length*K.length:=by rw[←kJ];congr 1;omega
 have hbd:q.o+l*K.length+(kR (xs.length-l) zs).length≤C.length:=by rw[wc hz,dp,Di];omega
 refine .inr ⟨⟨q.b,q.o+l*K.length⟩,C,hp,by rw[hlen];exact hc0,hb,by rw[hlen,hzl];show q.o+l*K.length+_≤_;omega,λw' he hb' _=>hk w' ?_⟩;rw[hlen]at hb';have hlen2:(xs.take l++List.replicate (xs.length-l) z).length=xs.length:=by rw[eQ,fU,Di];omega
 refine e3 w' s K _ (he.mono λk _ hk=>⟨q,hq,hk,hc⟩) (.inr ⟨q,_,hq,hb',hle,hc,by rw[kW hbd];exact hC,by rw[dp,hlen2,e2],λi hi=>?_⟩) (by rw[hlen2];exact e2) (λk hk=>.inl hk);rw[dp,hlen2]at hi;have hC2:q.o+i<C.length:=by omega
 show(fa C (q.o+l*K.length) _)[q.o+i]?=_;have e4:(kR (xs.length-l) zs).length=(xs.length-l)*K.length:=by rw[wc hz,dp,Di]
 rw[lx hbd,rX,sW,←wc hz];by_cases c1:i<l*K.length
 ·rw[aF (by omega),hg i (by rw[dp];omega),pk (by rw[fU,dp];omega),pn,aF c1]
 ·rw[aw (by omega),aF (by omega),tO (by rw[fU,dp];omega)]
  congr 1
  rw[fU,dp];omega
theorem WH{zs:List Lf}{z:Ks.T K}{n:Nat}{c:Int}{k:Sl→WP}(h:au w0 S0 R0 w F)[t:mT s F K xs G](hn:n=K.length)(hz:zs=Ks.mk K z)(h0:0≤c)(hl:(xs.length:Int)+c≤4294967296)
  (hk:∀s' w',s'.len=xs.length+c.toNat→au w0 S0 R0 w' (X.aQ s' K (xs++List.replicate c.toNat z)^G)→k s' w'):PL zs n s c k w:=by
 obtain⟨h1,h2,h3⟩:=(h.le t.le).Ep;subst hn;refine⟨_,h1,⟨h0,by rw[h2];exact hl⟩,λw' s' e1 e2 e3 e4=>hk s' w' (by rw[e3,h2]) (h3 w' s' K _ e1 (by rw[rX,←wc hz];exact e2) (by rw[e3,h2,eQ,Di]) e4)⟩
theorem au.SC(h:au w0 S0 R0 w F)(s:Sl)(q:Pt){C:List Lf}[t:mU q.b F C G](K:Ks)(xs:List (Ks.T K))(hq:s.p=some q)(hl:s.len=xs.length)(hle:s.len≤s.cap)(hc:s.cap≠0)(hC:q.o+s.cap*K.length≤C.length)(hg:∀i,i<xs.length*K.length→C[q.o+i]?=(flat K xs)[i]?):
  au w0 S0 R0 w (X.aQ s K xs^G):=by
 obtain⟨S,R,⟨h1,hS,hR⟩,_,h2⟩:=(h.le t.le).part;refine h2 w _ S (λ_=>False) (ju.refl _ _) ⟨⟨.inr ⟨q,C,hq,h1,hle,hc,hC,by rw[dp,hl],λi hi=>hg i (by rw[dp]at hi;exact hi)⟩,hl⟩,λk=>?_,λ_ h=>h⟩ (λ_ h=>.inl h) (λ_ h=>h.elim);rw[hS k];exact⟨λhk=>⟨q,hq,hk,hc⟩,λ⟨q',hq',hk,_⟩=>by rw[hq]at hq';cases hq';exact hk⟩
theorem au.eP{b:Nat}{L L':List Lf}(h:au w0 S0 R0 w F)[t:mU b F L G](e:L=L'):au w0 S0 R0 w (X.ah b L'^G):=by rw[←e];exact h.le t.le
theorem au.eD{s:Sl}{ys:List (Ks.T K)}(h:au w0 S0 R0 w F)[t:mT s F K xs G](e:xs=ys):au w0 S0 R0 w (X.aQ s K ys^G):=by rw[←e];exact h.le t.le
def yj{α:Type}(φ:α→Prop)(f:α→SP):SP:=ex λa=>br (φ a) (f a)
instance{α:Type}(φ:α→Prop)(f:α→SP)[a:∀x,nt (f x)]:nt (yj φ f):=by unfold yj;infer_instance
theorem au.r_{α:Type}{φ:α→Prop}{f:α→SP}(h:au w0 S0 R0 w F)(a:α)(hp:φ a)[t:Take (f a) F G]:au w0 S0 R0 w (X.yj φ f^G):=
 ((h.le t.le).je (p:=φ a) hp).tH (f:=λa=>X.br (φ a) (f a)) a
theorem au.vQ{α:Type}{φ:α→Prop}{f:α→SP}(h:au w0 S0 R0 w (X.yj φ f^F)):∃a,φ a∧au w0 S0 R0 w (f a^F):=by
 obtain⟨a,h⟩:=au.lS (f:=λa=>X.br (φ a) (f a)) h;obtain⟨hp,h⟩:=h.aP;exact⟨a,hp,h⟩
theorem au.NB{α:Type}{φ:α→Prop}{f:α→SP}(h:au w0 S0 R0 w (X.yj φ f)):∃a,φ a∧au w0 S0 R0 w (f a):=by
 obtain⟨a,hp,h⟩:=(h.le (aG _)).vQ;exact⟨a,hp,h.bq⟩
def kept(s:Sl)(K:Ks)(xs:List (Ks.T K))(f:Ks.T K):SP:=br (s.len=xs.length∧xs.length+3≤s.cap∧s.p≠none) (aQ ⟨s.p,xs.length+3,s.cap⟩ K (xs++[f,f,f]))
def rl{α:Type}(f:α→SP):List α→SP
 |[]=>bg
 |x::xs=>f x^rl f xs
theorem B8{α:Type}{f:α→SP}{s:Sl}{K:Ks}{ys:List (Ks.T K)}:∀{l:List α} {i:Nat} {x:α},l[i]?=some x→Rd s (f x) K ys→Rd s (rl f l) K ys
 |[],i,x,h,_=>by cases h
 |y::l,0,x,h,r=>by
  cases h;exact @RI s K ys (f y) (rl f l) r
 |y::l,i+1,x,h,r=>by
  have:=B8 (l:=l) (i:=i) (x:=x) (by simpa using h) r;exact @Od s K ys (f y) (rl f l) this
end
end Go.X

namespace Go.X
open Go.ChangeShapes Go.WideShapes Go.ChangeAt Go.RowKit
section
variable {H:Type} {enc:TypeId×Value→H} {P:Program}
theorem Bn{f:Func}{s:ChangeSpec}{apart fresh handsOn:Bool}{W W':World}{args:Array Value}{v:Value}{ds gs:List (DataW H)}{before pa pv:List MemPlace}
  (hW:DataW.Whole enc P f.params.toList s.vars apart W args.toList ds gs before)
  (hres:∀(b:Nat) (sp:Nat→Bool) (hd:Bool),DataW.TrodAll enc P W' b sp hd f.resultTypes.toList (v.resultList f.resultTypes.size) (s.fn H (ds++gs)).results [])
  (hargs:DataW.TrodAll enc P W' 0 (λb=>decide (b<W.heap.size)) true f.params.toList args.toList (s.fn H (ds++gs)).args pa)
  (hvars:DataW.TrodVars enc P W' (λb=>decide (b<W.heap.size)) s.vars (s.fn H (ds++gs)).vars pv)
  (hps:before=pa++pv) (hb:Below W.heap.size W W'):s.post enc P f apart fresh handsOn false W args v W':=by
 refine⟨ds,gs,before,[],pa,pv,hW,hres _ _ _,hargs,hvars,World.keptBut_mono (λp hp=>⟨hp,?_⟩) (hb.frame (·∈before)),λh=>by cases h⟩;rw[hps,dX]at hp;exact Or.inr hp
theorem sE{w:World}{b:Nat}:∀{ls:List Lf} {o:Nat},(∀i l,ls[i]?=some l→w.cell? ⟨b,o+i,none⟩=some l.enc)→Reads w b o ls
 |[],_,_=>trivial
 |l::ls,o,h=>⟨by have:=h 0 l rfl;simpa using this,sE λi m hm=>by
   have:=h (i+1) m (by simpa using hm);rwa[show o+(i+1)=o+1+i by omega]at this⟩
theorem K1{t e:TypeId}{W:World}{r:Reach}{base:Nat}{a:Addr}{len cap:Nat}(ht:P.underlying t=some (.slice e))(h:Value.okWide P W r base t (.slice (some a) len cap)):a.spot=none:=by
 simp only[Value.okWide,ht,Cell.okWide,Cell.ok]at h;exact h.2.2.2.1
end
end Go.X

namespace Go.X
open Go.ChangeShapes Go.WideShapes Go.ChangeAt Go.RowKit
section
variable {H:Type} {enc:TypeId×Value→H} {P:Program}
def QB(P:Program)(rec:TypeId→Option (List TypeId)):List Field→Nat→Option (List TypeId)
 |[],_=>some []
 |f::r,off=>match rec f.type with
  |some a=>(match Nat.beq f.offset off&&Nat.beq a.length (P.cellsOf f.type)with
   |true=>(match QB P rec r (off+a.length)with|some b=>some (a++b)|none=>none)
   |false=>none)
  |none=>none
def E_(P:Program)(t:TypeId):Option (List TypeId)→Option (List TypeId)
 |some ts=>(match Nat.beq ts.length (P.cellsOf t)with|true=>some ts|false=>none)
 |none=>none
def A6(P:Program):Nat→TypeId→Option (List TypeId)
 |0,_=>none
 |d+1,t=>match P.underlying t with
  |some (.struct fs)=>E_ P t (QB P (A6 P d) fs.toList 0)
  |some (.array n e)=>(match E_ P e (A6 P d e)with|some a=>E_ P t (some (List.replicate n a).flatten)|none=>none)
  |some .bool=>some [t]
  |some (.int _)=>some [t]
  |some .string=>some [t]
  |some (.slice e)=>(match Nat.beq (P.cellsOf e) 0 with|true=>none|false=>some [t])
  |_=>none
theorem mM{t:TypeId}{o:Option (List TypeId)}{ts:List TypeId}(h:E_ P t o=some ts):o=some ts∧ts.length=P.cellsOf t:=by
 unfold E_ at h;split at h
 ·split at h
  ·rename_i hb;cases h;exact⟨rfl,qt hb⟩
  ·cases h
 ·cases h
theorem CC{rec:TypeId→Option (List TypeId)}:∀{fl:List Field} {off:Nat} {ts:List TypeId},QB P rec fl off=some ts→∀{i:Nat} {u:TypeId},ts[i]?=some u→
  ∃f∈fl,∃a,rec f.type=some a∧f.offset≤off+i∧off+i<f.offset+a.length∧a.length=P.cellsOf f.type∧a[off+i-f.offset]?=some u
 |[],off,ts,h,i,u,hu=>by cases h;cases hu
 |f::r,off,ts,h,i,u,hu=>by
  simp only[QB]at h;split at h
  ·rename_i a ha;split at h
   ·rename_i hb;rw[ej]at hb;have h1:=qt hb.1;have h2:=qt hb.2;split at h
    ·rename_i b hb2;cases h;by_cases hi:i<a.length
     ·rw[pk hi]at hu;exact⟨f,by simp,a,ha,by omega,by omega,h2,by rw[show off+i-f.offset=i by omega];exact hu⟩
     ·rw[tO (by omega)]at hu;obtain⟨g,hg,c,hc,e1,e2,e3,e4⟩:=CC hb2 hu;refine⟨g,by simp[hg],c,hc,by omega,by omega,e3,?_⟩;rw[show off+i-g.offset=off+a.length+(i-a.length)-g.offset by omega];exact e4
    ·cases h
   ·cases h
  ·cases h
theorem HC{α:Type}(a:List α):∀(n i:Nat) (u:α),(List.replicate n a).flatten[i]?=some u→i/a.length<n∧a[i%a.length]?=some u
 |0,i,u,h=>by simp at h
 |n+1,i,u,h=>by
  rw[Hb,List.flatten_cons]at h;by_cases hi:i<a.length
  ·rw[pk hi]at h;rw[Nat.div_eq_of_lt hi,Nat.mod_eq_of_lt hi];exact⟨by omega,h⟩
  ·rw[tO (by omega)]at h;obtain⟨h1,h2⟩:=HC a n _ u h;have hpos:0<a.length:=by
    rcases Ab a.length with h0|h0
    ·have:a=[]:=nX h0;rw[this]at h2;simp at h2
    ·exact h0
   have e1:i/a.length=(i-a.length)/a.length+1:=by
    conv=>lhs;rw[show i=(i-a.length)+a.length by omega]
    rw[Nat.add_div_right _ hpos]
   have e2:i%a.length=(i-a.length)%a.length:=by
    conv=>lhs;rw[show i=(i-a.length)+a.length by omega]
    rw[Nat.add_mod_right]
   rw[e1,e2];exact⟨by omega,h2⟩
theorem xk{w:World}:∀(d:Nat) {t:TypeId} {ts:List TypeId} {fuel:Nat} {cs:List Value} {x:DataW H×List MemPlace},A6 P d t=some ts→DataW.trod enc P w 0 (λ_=>true) true fuel t cs=some x→
  ts.length=cs.length∧∀(i:Nat) (u:TypeId) (v:Value),ts[i]?=some u→cs[i]?=some v→∃m y,DataW.trod enc P w 0 (λ_=>true) true m u [v]=some y
 |0,t,ts,fuel,cs,x,h,_=>by cases h
 |d+1,t,ts,fuel,cs,x,h,hx=>by
  simp only[A6]at h;split at h
  ·rename_i fs hu;obtain⟨hc,hlen⟩:=mM h;obtain⟨xs,n,_,_,hcl,hxl,hf⟩:=DataW.trod_struct hu hx;refine⟨by omega,λi u v hi hv=>?_⟩;obtain⟨f,hfm,a,ha,e1,e2,e3,e4⟩:=CC hc hi;rw[nN]at e1 e2 e4;obtain⟨k,hk⟩:=tQ.1 hfm;have hk':fs[k]?=some f:=by simpa using hk
   have hkl:k<xs.length:=(by rw[hxl];exact(pj.1 hk').1);have hp:=hf k f hk';rw[gG hkl]at hp;obtain⟨_,hh⟩:=xk d ha hp;refine hh (i-f.offset) u v e4 ?_;rw[pn,aF (by omega),tR,show f.offset+(i-f.offset)=i by omega];exact hv
  ·rename_i n e hu;split at h
   ·rename_i a ha;obtain⟨ha,hal⟩:=mM ha;obtain⟨h1,hlen⟩:=mM h;cases h1;obtain⟨xs,m,_,_,hcl,hxl,hf⟩:=DataW.trod_array hu hx;refine⟨by omega,λi u v hi hv=>?_⟩;obtain⟨r1,r2⟩:=HC a n i u hi;have hp:=hf (i/a.length) r1;rw[gG (by omega)]at hp;obtain⟨_,hh⟩:=xk d ha hp;refine hh (i%a.length) u v r2 ?_;have hpos:0<a.length:=by
     rcases Ab a.length with h0|h0
     ·have:a=[]:=nX h0;rw[this]at r2;simp at r2
     ·exact h0
    rw[pn,aF (by rw[←hal];exact DF _ hpos),tR,←hal];have:=Hm i a.length;rw[Al]at this;rw[this];exact hv
   ·cases h
  ·rename_i hu;cases h;obtain⟨b,rfl,_⟩:=Hl hu hx;exact⟨rfl,λi u v hi hv=>by
    cases i with
    |zero=>cases hi;cases hv;exact⟨_,_,hx⟩
    |succ i=>cases hi⟩
  ·rename_i k hu;cases h;obtain⟨b,rfl,_⟩:=Hp hu hx;exact⟨rfl,λi u v hi hv=>by
    cases i with
    |zero=>cases hi;cases hv;exact⟨_,_,hx⟩
    |succ i=>cases hi⟩
  ·rename_i hu;cases h;obtain⟨b,rfl,_⟩:=Hf hu hx;exact⟨rfl,λi u v hi hv=>by
    cases i with
    |zero=>cases hi;cases hv;exact⟨_,_,hx⟩
    |succ i=>cases hi⟩
  ·rename_i e hu;split at h
   ·cases h
   cases h;rcases Hi hu hx with⟨rfl,_⟩|⟨_,_,_,_,_,_,_,rfl,_⟩;all_goals
    exact⟨rfl,λi u v hi hv=>by
     cases i with
     |zero=>cases hi;cases hv;exact⟨_,_,hx⟩
     |succ i=>cases hi⟩
  ·cases h
def rH(P:Program)(W:World):Nat→TypeId→Lf→Prop
 |0,_,_=>True
 |_+1,_,.int k m=>(Lit.int k m).wf=true
 |_+1,_,.str s=>s.size≤maxLen
 |n+1,u,.sl s=>(s.len≤maxLen∧s.len≤s.cap)∧∀e ts ks,P.underlying u=some (.slice e)→A6 P 8 e=some ts→ts.map (qZ P)=ks.map some→ks.length=P.cellsOf e→ks≠[]→
   ∃zs:List (Ks.T ks),pA W s ks.length (flat ks zs)∧s.len=zs.length∧∀z∈zs,∀(i:Nat) (v:TypeId) (l:Lf),ts[i]?=some v→(Ks.mk ks z)[i]?=some l→rH P W n v l
 |_+1,_,_=>True
theorem O5:∀{ks:Ks} {ls:List Lf},ls.length=ks.length→(∀(i:Nat) (c:CK) (l:Lf),ks[i]?=some c→ls[i]?=some l→∃x,c.un l=some x)→∃z,Ks.un ks ls=some z
 |[],[],_,_=>⟨(),rfl⟩
 |[],_::_,h,_=>by cases h
 |[c],[],h,_=>by cases h
 |[c],[l],_,hh=>by
  obtain⟨x,hx⟩:=hh 0 c l rfl rfl;exact⟨x,hx⟩
 |[c],_::_::_,h,_=>by simp at h
 |c::d::r,[],h,_=>by cases h
 |c::d::r,l::ls,h,hh=>by
  obtain⟨x,hx⟩:=hh 0 c l rfl rfl;obtain⟨y,hy⟩:=O5 (ks:=d::r) (ls:=ls) (by simpa using h) (λi c l hc hl=>hh (i+1) c l (by simpa using hc) (by simpa using hl));exact⟨(x,y),by simp only[Ks.un,hx,hy]⟩
theorem CZ{α:Type}{Q:Nat→α→Prop}:∀(n:Nat),(∀i,i<n→∃z,Q i z)→∃zs:List α,zs.length=n∧∀(i:Nat) (z:α),zs[i]?=some z→Q i z
 |0,_=>⟨[],rfl,λi z h=>by cases h⟩
 |n+1,h=>by
  obtain⟨zs,hl,hz⟩:=CZ n λi hi=>h i (by omega);obtain⟨z,hq⟩:=h n (by omega);refine⟨zs++[z],by simp[hl],λi y hy=>?_⟩;by_cases hi:i<zs.length
  ·rw[pk hi]at hy;exact hz i y hy
  ·rw[tO (by omega)]at hy;have h0:i-zs.length=0:=by
    cases hd:i-zs.length with
    |zero=>rfl
    |succ k=>rw[hd]at hy;cases hy
   rw[h0]at hy;cases hy;rw[show i=n by omega];exact hq
theorem Wj{w:World}{n:Nat}(leaf:∀(u:TypeId) (v:Value) (c:CK) (m:Nat) (y:DataW H×List MemPlace),qZ P u=some c→A6 P 8 u=some [u]→DataW.trod enc P w 0 (λ_=>true) true m u [v]=some y→∃l,v=Lf.enc l∧(∃x,c.un l=some x)∧rH P w n u l)
  {ts:List TypeId} {ks:Ks} {cs:List Value} (hk:ts.map (qZ P)=ks.map some) (hsame:∀(i:Nat) (u:TypeId),ts[i]?=some u→A6 P 8 u=some [u]) (hl:ts.length=cs.length) (hc:∀(i:Nat) (u:TypeId) (v:Value),ts[i]?=some u→cs[i]?=some v→∃m y,DataW.trod enc P w 0 (λ_=>true) true m u [v]=some y):
  ∃z:Ks.T ks,cs=(Ks.mk ks z).map Lf.enc∧∀(i:Nat) (u:TypeId) (l:Lf),ts[i]?=some u→(Ks.mk ks z)[i]?=some l→rH P w n u l:=by
 have hkl:ts.length=ks.length:=by have:=dm List.length hk;simpa using this
 have each:∀i,i<cs.length→∃l:Lf,(∀v,cs[i]?=some v→v=l.enc)∧(∀c,ks[i]?=some c→∃x,c.un l=some x)∧∀u,ts[i]?=some u→rH P w n u l:=by
  intro i hi;have hti:ts[i]?=some ts[i]:=gG (by omega);have hci:cs[i]?=some cs[i]:=gG hi;have hki:ks[i]?=some ks[i]:=gG (by omega);obtain⟨m,y,hy⟩:=hc i _ _ hti hci;have hk1:qZ P ts[i]=some ks[i]:=by
   have:=dm (λz=>z[i]?) hk;simp only[kV,hti,hki,rf,nJ]at this;exact this
  obtain⟨l,h1,h2,h3⟩:=leaf _ _ _ m y hk1 (hsame i _ hti) hy;exact⟨l,λv hv=>by rw[hci]at hv;cases hv;exact h1,λc hc=>by rw[hki]at hc;cases hc;exact h2,λu hu=>by rw[hti]at hu;cases hu;exact h3⟩
 obtain⟨ls,hll,hls⟩:=CZ cs.length each;obtain⟨z,hz⟩:=O5 (ks:=ks) (ls:=ls) (by omega) λi c l hc hl=>(hls i l hl).2.1 c hc;have hmk:=Ks.iK hz;refine⟨z,?_,λi u l hu hl=>?_⟩
 ·rw[hmk];apply List.ext_getElem?;intro i;rw[kV];by_cases hi:i<cs.length
  ·rw[gG hi,gG (by omega:i<ls.length)];rw[(hls i _ (gG (by omega))).1 _ (gG hi)];rfl
  ·rw[q_ (by omega),q_ (by omega)];rfl
 ·rw[hmk]at hl;exact(hls i l hl).2.2 u hu
theorem C0:∀(d:Nat) {t:TypeId} {ts:List TypeId},A6 P d t=some ts→∀(i:Nat) (u:TypeId),ts[i]?=some u→A6 P 8 u=some [u]
 |0,t,ts,h,_,_,_=>by cases h
 |d+1,t,ts,h,i,u,hi=>by
  have one:ts=[t]→A6 P 8 t=some [t]→A6 P 8 u=some [u]:=λh1 h2=>by
   rw[h1]at hi;cases i with
   |zero=>cases hi;exact h2
   |succ i=>cases hi
  simp only[A6]at h;split at h
  ·obtain⟨hc,_⟩:=mM h;obtain⟨f,_,a,ha,_,_,_,e4⟩:=CC hc hi;exact C0 d ha _ _ e4
  ·split at h
   ·rename_i a ha;obtain⟨ha,_⟩:=mM ha;obtain⟨h1,_⟩:=mM h;cases h1;exact C0 d ha _ _ (HC a _ i u hi).2
   ·cases h
  ·rename_i hu;cases h;exact one rfl (by simp only[A6,hu])
  ·rename_i hu;cases h;exact one rfl (by simp only[A6,hu])
  ·rename_i hu;cases h;exact one rfl (by simp only[A6,hu])
  ·rename_i hu;split at h
   ·cases h
   ·rename_i hb;cases h;exact one rfl (by simp only[A6,hu,hb])
  ·cases h
theorem S9{w:World}{u e:TypeId}{v:Value}{m:Nat}{y:DataW H×List MemPlace}(hu:P.underlying u=some (.slice e))(hpos:P.cellsOf e≠0)(hy:DataW.trod enc P w 0 (λ_=>true) true m u [v]=some y):
  ∃s:Sl,v=(Lf.sl s).enc∧(s.len≤maxLen∧s.len≤s.cap)∧(s.p=none→s.len=0)∧∀i,i<s.len→∃(cs:List Value) (k:Nat) (x:DataW H×List MemPlace) (q:Pt),DataW.trod enc P w 0 (λ_=>true) true k e cs=some x∧cs.length=P.cellsOf e∧s.p=some q∧
   ∀r,r<P.cellsOf e→w.cell? ⟨q.b,q.o+i*P.cellsOf e+r,none⟩=cs[r]?:=by
 rcases Hi hu hy with⟨hb,_⟩|⟨a,len,cap,elems,rest,n,_,hb,_,_,hle,hcm,hel,h1,h2,_⟩
 ·cases hb;exact⟨⟨none,0,0⟩,rfl,⟨by simp,by simp⟩,λ_=>rfl,λi hi=>absurd hi (by simp)⟩
 ·cases hb;cases hsp:a.spot with
  |none=>
   have ha:a=⟨a.block,a.off,none⟩:=(by cases a;simp only at hsp;rw[hsp]);refine⟨⟨some ⟨a.block,a.off⟩,len,cap⟩,?_,⟨by show len≤maxLen;omega,hle⟩,λh=>(by cases h),λi hi=>?_⟩
   ·show _=Value.slice (some ⟨a.block,a.off,none⟩) len cap;rw[←ha]
   ·have hi:i<len:=hi;have:=h1 i hi;rw[gG (by omega)]at this;obtain⟨z,hz,hz2⟩:=x_.1 this;obtain⟨_,hzl,hzc⟩:=World.cells?_some hz;refine⟨z,_,_,⟨a.block,a.off⟩,hz2,hzl,rfl,λr hr=>?_⟩;have h5:=hzc r hr;rw[ha,add_eq,add_eq]at h5;exact h5
  |some k=>
   have hcap:cap=0:=by
    rcases Ab cap with h0|h0
    ·exact h0
    ·exfalso;have:∃z,w.cells? 0 (a.add 0) (P.cellsOf e)=some z:=by
      by_cases hl0:0<len
      ·have:=h1 0 hl0;rw[gG (by omega)]at this;obtain⟨z,hz,_⟩:=x_.1 this;exact⟨z,by simpa using hz⟩
      ·obtain⟨h3,h4⟩:=h2 rfl;have:=h4 0 (by omega);rw[gG (by omega)]at this;obtain⟨z,hz,_⟩:=x_.1 this;rw[show len+0=0 by omega]at hz;exact⟨z,by simpa using hz⟩
     obtain⟨z,hz⟩:=this;obtain⟨_,hzl,hzc⟩:=World.cells?_some hz;have h5:=hzc 0 (by omega);rw[gG (by omega)]at h5;have:=World.cell?_spot h5;simp[Addr.add,hsp]at this
   have hlen:len=0:=(by omega);obtain⟨c,hc⟩:=Nq a.block a.off k;have ha:E9 c=a:=(by rw[hc];cases a;simp only at hsp;rw[hsp]);refine⟨⟨none,0,c+1⟩,?_,⟨by simp,by simp⟩,λ_=>rfl,λi hi=>absurd hi (by simp)⟩;rw[hcap,hlen];show _=Value.slice (some (E9 (c+1-1))) 0 0;rw[Nat.add_sub_cancel,ha]
theorem QV{K:Ks}{zs:List (Ks.T K)}{w:World}{q:Pt}(h:∀(i:Nat) (z:Ks.T K),zs[i]?=some z→∀r,r<K.length→w.cell? ⟨q.b,q.o+i*K.length+r,none⟩=((Ks.mk K z)[r]?).map Lf.enc):Reads w q.b q.o (flat K zs):=by
 refine sE λi l hi=>?_;have hil:=(ie.1 hi).1;rw[dp]at hil;have hpos:0<K.length:=by
  rcases Ab K.length with h0|h0
  ·rw[h0,Ht]at hil;omega
  ·exact h0
 have hj:i/K.length<zs.length:=(Nat.div_lt_iff_lt_mul hpos).2 hil;have hr:i%K.length<K.length:=DF _ hpos;have e:i/K.length*K.length+i%K.length=i:=by
  have:=Hm i K.length;rwa[Al]at this
 have hz:zs[i/K.length]?=some zs[i/K.length]:=gG hj;have h1:=h _ _ hz _ hr;have h2:=sV K zs _ _ hz _ hr;rw[e]at h2;rw[←h2,hi]at h1;rw[show q.o+i=q.o+i/K.length*K.length+i%K.length by omega];exact h1
theorem Q8{w:World}:∀(n:Nat) (u:TypeId) (v:Value) (c:CK) (m:Nat) (y:DataW H×List MemPlace),qZ P u=some c→A6 P 8 u=some [u]→DataW.trod enc P w 0 (λ_=>true) true m u [v]=some y→∃l,v=Lf.enc l∧(∃x,c.un l=some x)∧rH P w n u l:=by
 intro n
 induction n with
 |zero=>
  intro u v c m y hk hl hy;simp only[A6]at hl;simp only[qZ]at hk;split at hl
  ·rename_i hu;rw[hu]at hk;cases hk
  ·rename_i hu;rw[hu]at hk;cases hk
  ·rename_i hu;obtain⟨b,hb,_⟩:=Hl hu hy;cases hb;rw[hu]at hk;cases hk;exact⟨.bool b,rfl,⟨b,rfl⟩,trivial⟩
  ·rename_i hu;obtain⟨b,hb,_⟩:=Hp hu hy;cases hb;rw[hu]at hk;cases hk;exact⟨.int _ b,rfl,⟨b,by simp[CK.un]⟩,trivial⟩
  ·rename_i hu;obtain⟨b,hb,_⟩:=Hf hu hy;cases hb;rw[hu]at hk;cases hk;exact⟨.str b,rfl,⟨b,rfl⟩,trivial⟩
  ·rename_i e hu;rw[hu]at hk;cases hk;split at hl
   ·cases hl
   ·rename_i hb;obtain⟨s,hs,_⟩:=S9 hu (λh=>by rw[h]at hb;cases hb) hy;exact⟨.sl s,hs,⟨s,rfl⟩,trivial⟩
  ·cases hl
 |succ n ih=>
  intro u v c m y hk hl hy;simp only[A6]at hl;simp only[qZ]at hk;split at hl
  ·rename_i hu;rw[hu]at hk;cases hk
  ·rename_i hu;rw[hu]at hk;cases hk
  ·rename_i hu;obtain⟨b,hb,_⟩:=Hl hu hy;cases hb;rw[hu]at hk;cases hk;exact⟨.bool b,rfl,⟨b,rfl⟩,trivial⟩
  ·rename_i hu;obtain⟨b,hb,_,hw⟩:=Hp hu hy;cases hb;rw[hu]at hk;cases hk;exact⟨.int _ b,rfl,⟨b,by simp[CK.un]⟩,hw⟩
  ·rename_i hu;obtain⟨b,hb,_,hw⟩:=Hf hu hy;cases hb;rw[hu]at hk;cases hk;exact⟨.str b,rfl,⟨b,rfl⟩,hw⟩
  ·rename_i e hu;rw[hu]at hk;cases hk;split at hl
   ·cases hl
   ·rename_i hb;have hpos:P.cellsOf e≠0:=λh=>by rw[h]at hb;cases hb
    obtain⟨s,hs,hmax,hnil,hel⟩:=S9 hu hpos hy;refine⟨.sl s,hs,⟨s,rfl⟩,hmax,λe' ts ks hu' hts hks hkl _=>?_⟩;rw[hu]at hu';cases hu';have each:∀i,i<s.len→∃z:Ks.T ks,(∀q,s.p=some q→∀r,r<ks.length→w.cell? ⟨q.b,q.o+i*ks.length+r,none⟩=((Ks.mk ks z)[r]?).map Lf.enc)∧∀(i:Nat) (v:TypeId) (l:Lf),ts[i]?=some v→(Ks.mk ks z)[i]?=some l→rH P w n v l:=by
     intro i hi;obtain⟨cs,k,x,q,h1,h2,h3,h4⟩:=hel i hi;obtain⟨h5,h6⟩:=xk 8 hts h1;obtain⟨z,hz1,hz2⟩:=Wj (n:=n) ih hks (C0 8 hts) h5 h6;refine⟨z,λq' hq' r hr=>?_,hz2⟩;rw[h3]at hq';cases hq';rw[hkl,h4 r (by omega),hz1,kV]
    obtain⟨zs,hzl,hzs⟩:=CZ s.len each;refine⟨zs,⟨by rw[dp,hzl],hnil,λq hq=>QV λi z hz r hr=>(hzs i z hz).1 q hq r hr⟩,hzl.symm,λz hz=>?_⟩;obtain⟨i,hi⟩:=tQ.1 hz;exact(hzs i z hi).2
  ·cases hl
theorem RO{W:World}{t e:TypeId}{v:Value}{d:DataW H}{p:List MemPlace}{ts:List TypeId}{ks:Ks}(n:Nat)(ht:P.underlying t=some (.slice e))(hts:A6 P 8 e=some ts)(hks:ts.map (qZ P)=ks.map some)(hkl:ks.length=P.cellsOf e)(hne:ks≠[]){r:Reach}{base:Nat}
  (hv:Value.okWide P W r base t v) (h:DataW.Trod enc P W 0 (λ_=>true) true t v d p):
  ∃(s:Sl) (zs:List (Ks.T ks)),v=(Lf.sl s).enc∧Ee s∧pA W s ks.length (flat ks zs)∧s.len=zs.length∧zs.length≤maxLen∧∀z∈zs,∀(i:Nat) (u:TypeId) (l:Lf),ts[i]?=some u→(Ks.mk ks z)[i]?=some l→rH P W n u l:=by
 obtain⟨a0,len,cap,rfl⟩:=okWide_slice ht hv;obtain⟨fuel,hf⟩:=h;have hf:DataW.trod enc P W 0 (λ_=>true) true fuel t [.slice a0 len cap]=some (d,p):=by simpa [Value.cells]using hf
 have hpos:P.cellsOf e≠0:=λhh=>hne (nX (by omega));have hl:A6 P 8 t=some [t]:=by
  have:Nat.beq (P.cellsOf e) 0=false:=by
   cases hh:Nat.beq (P.cellsOf e) 0 with
   |false=>rfl
   |true=>exact absurd (qt hh) hpos
  simp only[A6,ht,this]
 obtain⟨l,hl1,⟨s,hs⟩,hl2⟩:=Q8 (n+1) t _ .sl fuel _ (by simp only[qZ,ht]) hl hf;have hl0:l=.sl s:=by
  cases l with
  |sl s'=>simp only[CK.un,nJ]at hs;rw[hs]
  |_=>simp[CK.un]at hs
 subst hl0;obtain⟨hm,hz⟩:=hl2;obtain⟨zs,h1,h2,h3⟩:=hz e ts ks ht hts hks hkl hne;refine⟨s,zs,hl1,?_,h1,h2,by omega,h3⟩;have hsp:∀a,a0=some a→a.spot=none:=λa ha=>by subst ha;exact K1 ht hv
 have hodd:s.vP=false:=by
  cases ho:s.vP with
  |false=>rfl
  |true=>
   have he:(Lf.sl s).enc=.slice (some (E9 (s.cap-1))) 0 0:=(by show s.enc=_;unfold Sl.enc;rw[ho]);rw[he]at hl1;cases hl1;have:=hsp _ rfl;simp[E9]at this
 refine⟨hodd,λhc hp=>?_⟩;have he:(Lf.sl s).enc=.slice none s.len s.cap:=by show s.enc=_;rw[Sl.xW hodd,hp];rfl
 rw[he]at hl1;cases hl1;rcases Hi ht hf with⟨hb,_⟩|⟨_,_,_,_,_,_,_,hb,_⟩
 ·simp at hb;exact hc hb.2
 ·simp at hb
theorem VE{W:World}{t e:TypeId}{s:Sl}(ht:P.underlying t=some (.slice e))(hn:Ee s){r:Reach}{base:Nat}(hv:Value.okWide P W r base t (Lf.sl s).enc):s.len≤s.cap:=by
 have he:(Lf.sl s).enc=.slice (s.p.map Pt.addr) s.len s.cap:=Sl.xW hn.1;rw[he]at hv;cases hp:s.p with
 |none=>
  rw[hp]at hv;obtain⟨l,c,hlc⟩:∃l c,l=s.len∧c=s.cap:=⟨_,_,rfl,rfl⟩;rw[←hlc.1,←hlc.2]at hv⊢;simp only[Value.okWide,ht,Cell.okWide,Cell.ok,Option.map_none]at hv;cases l with
  |zero=>exact iW _
  |succ l=>simp at hv
 |some q=>
  rw[hp]at hv;simp only[Value.okWide,ht,Cell.okWide,Cell.ok,rf]at hv;exact hv.1
def S8(ls:List Lf):Prop:=∀l∈ls,match l with|.int k m=>(Lit.int k m).wf=true|.str s=>s.size≤maxLen|_=>True
theorem Oq{W:World}{n:Nat}{ts:List TypeId}{ls:List Lf}(h:∀(i:Nat) (u:TypeId) (l:Lf),ts[i]?=some u→ls[i]?=some l→rH P W (n+1) u l)(hl:ls.length=ts.length):S8 ls:=by
 intro l hm;obtain⟨i,hi⟩:=tQ.1 hm;have hil:=(ie.1 hi).1;have:=h i ts[i] l (gG (by omega)) hi;cases l with
 |int k m=>exact this
 |str s=>exact this
 |_=>trivial
theorem wf_u8{n:Int}(h:(Lit.int .u8 n).wf=true):0≤n∧n<256:=by simp[Lit.wf,IntKind.min,IntKind.max,IntKind.signed,IntKind.bits]at h;omega
def yO(A:SP)(w:World):Prop:=∃R:Nat→Prop,A.h w (λ_=>False) R
theorem FH{w:World}{s:Sl}{K:Ks}{zs:List (Ks.T K)}(h:pA w s K.length (flat K zs))(hl:s.len=zs.length):yO (aZ s K zs) w:=⟨_,⟨h,hl⟩,λ_ h=>h,λ_=>mC⟩
theorem FI{A B:SP}{w:World}(h:yO A w)(k:yO B w):yO (A^B) w:=by
 obtain⟨R1,h1⟩:=h;obtain⟨R2,h2⟩:=k;exact⟨λk=>R1 k∨R2 k,λ_=>False,R1,λ_=>False,R2,h1,h2,λk=>by simp,λ_=>mC,λ_ h=>h.elim,λ_ h=>h.elim,λ_ _ h=>h⟩
def ID(P:Program)(fn:Func)(c:OpenClaim):List (Option IntKind):=if c.domain.isEmpty then []else fn.params.toList.map λt=>match P.underlying t with|some (.int k)=>some k|_=>none
theorem J5{P:Program}{f:FuncId}{fn:Func}{s:ChangeSpec}{c:OpenClaim}
  (h1:c.wf (OpenSpec.ofChange s)=true) (h2:laidOutB P=true) (h3:mapsRowed P=true)
  (h4:(fn.params.all (P.readableRec ·)&&(namedTie P c.named s.vars&&((c.stops==[])&&((P.stops==[])&&((c.knobs==[])&&(P.stopKnobs==[]))))))=true)
  (h5:(c.inPlace==P.inPlace f)=true) (h6:(c.unfollowed==P.unfollowed f)=true) (h7:(c.recurses==P.recurses f)=true) (h8:(c.named==P.varsNamed f)=true)
  (h9:((c.maps==(fn.params.toList++s.plain.varTypes P).any (P.mapsRec ·))&&((c.ifaces==(fn.params.toList++s.plain.varTypes P).any (P.ifacesRec ·))&&((c.mapsOut==P.mapsAmong fn.resultTypes.toList)&&((c.loops==(fn.params.toList++s.plain.varTypes P).any (P.loopsFrom ·))&&(c.wideKeys==(fn.params.toList++s.plain.varTypes P++fn.resultTypes.toList).any (P.wideKeysFrom ·))))))=true)
  (h10:(s.vars.all (P.varReadable ·)&&(fn.resultTypes.all (λt=>P.readableRec t&&decide (t<P.types.size))&&((c.ifacesOut==fn.resultTypes.toList.any (P.ifacesRec ·))&&((c.loopsOut==fn.resultTypes.toList.any (P.loopsFrom ·))&&((c.plainKeys==P.plainKeys)&&c.shortTexts.isNone)))))=true)
  (h11:P.stopsHeard=true) (h12:P.mayEnter=true)
  (h13:((c.lifted==P.liftsFinal)&&((P.make==some c.make)&&((c.kinds==ID P fn c)&&(c.pinned==c.pinnedBy))))=true)
  (h14:((c.veiled==(fn.params.toList++s.plain.varTypes P++fn.resultTypes.toList).any (P.veiledRec ·))&&c.veiledFits P fn.params.toList (fn.params.toList++s.plain.varTypes P++fn.resultTypes.toList))=true):
  joinedFacts P f fn s c=true:=by
 unfold joinedFacts;rw[ej]at h14;simp only[ej]at h4 h9 h10 h13;obtain⟨a1,a2,a3,a4,a5,a6⟩:=h4;obtain⟨b1,b2,b3,b4,b5⟩:=h9;obtain⟨c1,c2,c3,c4,c5,c6⟩:=h10;obtain⟨d1,d2,d3,d4⟩:=h13;rw[h1,h2,h3,a1,a2,a3,a4,a5,a6,h5,h6,h7,h8,b1,b2,b3,b4,b5,c1,c2,c3,c4,c5,c6,h11,h12,d1,d2];simp only[Bool.true_and,ej];exact⟨⟨⟨d3,d4⟩,h14.1⟩,h14.2⟩
theorem M2{f:FuncId}{args:List V1}{A:SP}{w:World}(t:wF P f args [.lf .bool] A (λr=>br (r=true) bg))(h:yO A w)(he:JW P f=true:=by kernel_rfl):
  Calls P f (args.map V1.enc).toArray w λe w'=>e=.returned (.bool true)∧RowKit.Below w.heap.size w w':=by
 obtain⟨R,h⟩:=h;exact V3 t h he
end
end Go.X

