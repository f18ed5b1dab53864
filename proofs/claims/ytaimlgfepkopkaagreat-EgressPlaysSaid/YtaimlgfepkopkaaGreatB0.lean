/- Contracts and plain facts: Plain Arith Wf TreeM TreeN BbrM BbrMm BbrF BbrG BbrH BbrLs. -/
import Derived.Test.YtaimlgfepkopkaaGreatK
set_option linter.all false
namespace Go.X
def nt{α:Type}(Q:α→α→Prop):List α→List α→Prop
 |[],[]=>True
 |x::xs,y::ys=>Q x y∧nt Q xs ys
 |_,_=>False
theorem xS{α:Type}{Q:α→α→Prop}:∀{xs ys:List α},nt Q xs ys→xs.length=ys.length
 |[],[],_=>rfl
 |[],_::_,h=>h.elim
 |_::_,[],h=>h.elim
 |x::xs,y::ys,h=>by simp[xS h.2]
theorem Bv{α:Type}:∀(xs ys:List α),nt Eq xs ys↔xs=ys
 |[],[]=>by simp[nt]
 |[],_::_=>by simp[nt]
 |_::_,[]=>by simp[nt]
 |x::xs,y::ys=>by rw[nt,Bv xs ys,List.cons.injEq]
abbrev KI:Ks:=[.int .i64]
abbrev KU:Ks:=[.int .u64]
abbrev KR:Ks:=[.int .u64,.int .u64]
abbrev KB:Ks:=[.bool]
theorem pP{α:Type}{l:List α}{i:Nat}{x:α}(h:l[i]?=some x):l.drop i=x::l.drop (i+1):=by
 obtain⟨hl,he⟩:=gJ.1 h;rw[←he];exact Be hl
theorem pn:∀(n:Nat) (l:List Int),l.Nodup→(∀x∈l,0≤x∧x<(n:Int))→l.length≤n
 |0,l,_,h=>by
  cases l with
  |nil=>simp
  |cons x l=>have:=h x (by simp);omega
 |n+1,l,hd,h=>by
  have h1:=pn n (l.filter (λx=>!decide (x=(n:Int)))) (hd.filter _) (λx hx=>by
   rw[tv]at hx;have:=h x hx.1;have h2:¬x=(n:Int):=by simpa using hx.2
   omega)
  have h3:l.length≤(l.filter (λx=>!decide (x=(n:Int)))).length+1:=by
   clear h1 h
   induction l with
   |nil=>simp
   |cons x l ih=>
    rw[kU]at hd;by_cases hx:x=(n:Int)
    ·have:l.filter (λx=>!decide (x=(n:Int)))=l:=by
      rw[zq];intro y hy;have:y≠x:=λe=>hd.1 (e▸hy);simp;omega
     rw[zg,ay (by simp[hx]),this];simp
    ·rw[zg,aC (by simp[hx])];have:=ih hd.2;simp only[kS];omega
  omega
section
variable {w0 w:World} {S0 R0:Nat→Prop} {F G:SP}
theorem az{p:Pt}{ls:List Lf}{A:WP}{L:List Lf}(h:au w0 S0 R0 w F)(b:Nat)(L':List Lf)[t:mr b F L G](hp:p.b=b)(hx:Nat.ble (p.o+ls.length) L.length=true)(e:dj L p.o ls=L')
  (k:∀w',au w0 S0 R0 w' (X.ah b L'^G)→A w'):st p ls A w:=by
 subst hp;subst e;exact aU h hx k
end
theorem least{α:Type}(P:α→Prop)(μ:α→Nat)(h:∃a,P a):∃n,(∃a,P a∧μ a=n)∧∀a,P a→n≤μ a:=by
 obtain⟨a,ha⟩:=h;have key:∀k a,P a→μ a≤k→∃n,(∃a,P a∧μ a=n)∧∀a,P a→n≤μ a:=by
  intro k
  induction k with
  |zero=>intro a ha hk;exact⟨0,⟨a,ha,by omega⟩,λ_ _=>kv _⟩
  |succ k ih=>
   intro a ha hk;by_cases hc:∃c,P c∧μ c<μ a
   ·obtain⟨c,hc,hlt⟩:=hc;exact ih c hc (by omega)
   ·exact⟨μ a,⟨a,ha,rfl⟩,λc hc'=>Nat.le_of_not_lt λhlt=>hc ⟨c,hc',hlt⟩⟩
 exact key _ a ha (fa _)
open Classical in
theorem gn{w0 w:World}{S0 R0:Nat→Prop}{α:Type}{cs:List CK}{x₀:Ks.T cs}{B:(Ks.T cs→WP)→Ks.T cs→WP}(I:Ks.T cs→α→SP)(φ:Ks.T cs→α→Prop)(μ:Ks.T cs→α→Nat)(a₀:α)(h:au w0 S0 R0 w (I x₀ a₀))(h0:φ x₀ a₀)
  (hr:∀(K:Ks.T cs→WP) x a w,φ x a→au w0 S0 R0 w (I x a)→(∀y c w',φ y c→au w0 S0 R0 w' (I y c)→μ y c<μ x a→K y w')→B K x w):loop cs x₀ B w:=by
 refine⟨λx w=>∃a,φ x a∧au w0 S0 R0 w (I x a),λx w=>if h:∃a,φ x a∧au w0 S0 R0 w (I x a)then Classical.choose (least _ (μ x) h)else 0,⟨a₀,h0,h⟩,?_⟩;intro x w hx;have hs:=MQ (least _ (μ x) hx);obtain⟨⟨a,⟨hp,ha⟩,hn⟩,_⟩:=hs;refine hr _ x a w hp ha λy c w' hy ho hlt=>⟨⟨c,hy,ho⟩,?_⟩;have hx':∃c,φ y c∧au w0 S0 R0 w' (I y c):=⟨c,hy,ho⟩;have e1:(if h:∃a,φ y a∧au w0 S0 R0 w' (I y a)then Classical.choose (least _ (μ y) h)else 0)=Classical.choose (least _ (μ y) hx'):=dif_pos hx';have e2:(if h:∃a,φ x a∧au w0 S0 R0 w (I x a)then Classical.choose (least _ (μ x) h)else 0)=Classical.choose (least _ (μ x) hx):=dif_pos hx;show(if h:∃a,φ y a∧au w0 S0 R0 w' (I y a)then Classical.choose (least _ (μ y) h)else 0)<(if h:∃a,φ x a∧au w0 S0 R0 w (I x a)then Classical.choose (least _ (μ x) h)else 0);rw[e1,e2,←hn];have:=(MQ (least _ (μ y) hx')).2 c ⟨hy,ho⟩;omega

namespace bB
abbrev M:Int:=18446744073709551616
def U(x:Int):Prop:=0≤x∧x<18446744073709551616
def bA(a b:Int):Int:=if a+b<18446744073709551616 then a+b else 18446744073709551615
def dF(a b:Int):Int:=if a<b then 0 else a-b
def qK(a b:Int):Int:=if a*b<18446744073709551616 then a*b else 18446744073709551615
def pW(a b c:Int):Int:=if a*b=0 then 0 else if a*b<c*18446744073709551616 then a*b/c else 18446744073709551615
theorem wm(n:Int):IntKind.u64.wrap n=n%18446744073709551616:=by simp[IntKind.wrap,IntKind.bits,IntKind.signed]
theorem tI(n:Int):U (IntKind.u64.wrap n):=NL n
theorem ol{a b:Int}(ha:U a)(hb:U b):U (bA a b):=by unfold U bA at*;split<;>omega
theorem mS{a b:Int}(ha:U a)(hb:U b):U (dF a b):=by unfold U dF at*;split<;>omega
theorem Dg{a b:Int}(ha:U a)(hb:U b):U (qK a b):=by
 have:=ub ha.1 hb.1;unfold qK;split
 ·exact⟨this,by assumption⟩
 ·unfold U;omega
theorem xX{a b c:Int}(ha:U a)(hb:U b)(hc:U c):U (pW a b c):=by
 have h:=ub ha.1 hb.1;unfold pW;split
 ·unfold U;omega
 ·split
  ·rename_i h1;refine⟨Cp h hc.1,?_⟩;have hc0:0<c:=by rcases Int.lt_or_eq_of_le hc.1 with h2|h2;exact h2;rw[←h2]at h1;omega
   exact MR hc0 (by rw[wq 18446744073709551616];exact h1)
  ·unfold U;omega
theorem Vl{a:Int}(h:U a):(BitVec.ofInt 64 a).toNat=a.toNat:=by
 unfold U at h;rw[BitVec.toNat_ofInt];simp;omega
theorem Ve(a:Int):((BitVec.ofInt IntKind.u64.bits a&&&BitVec.ofInt IntKind.u64.bits 4294967295).toNat:Int)=a%4294967296:=by
 show((BitVec.ofInt 64 a&&&BitVec.ofInt 64 4294967295).toNat:Int)=_;rw[Gl,show(BitVec.ofInt 64 4294967295).toNat=2^32-1 by decide,My,BitVec.toNat_ofInt];simp;omega
theorem Yc{a b:Int}(i:Nat)(k:Int)(hk:0≤k)(ha:a=k*(2^i:Nat))(h1:U a)(hb:0≤b)(hb2:b<(2^i:Nat))(h2:U b):((BitVec.ofInt IntKind.u64.bits a|||BitVec.ofInt IntKind.u64.bits b).toNat:Int)=a+b:=by
 show((BitVec.ofInt 64 a|||BitVec.ofInt 64 b).toNat:Int)=_;rw[BitVec.toNat_or,Vl h1,Vl h2];obtain⟨k,rfl⟩:=MI hk;obtain⟨b,rfl⟩:=MI hb;have e:a=((2^i*k:Nat):Int):=by rw[ha,zm];push_cast;rfl
 rw[e,eR,eR,←Nat.two_pow_add_eq_or_of_lt (by omega)]
 push_cast;rfl
theorem Ln(a:Int):a.fdiv (2^min (32:Int).toNat IntKind.u64.bits)=a/4294967296:=by
 show a.fdiv 4294967296=_;exact MB a (by decide)
theorem FD(a:Int):a.fdiv (2^min (63:Int).toNat IntKind.u64.bits)=a/9223372036854775808:=by
 show a.fdiv 9223372036854775808=_;exact MB a (by decide)
theorem Mg{r l:Int}(hl:U l):IntKind.u64.wrap (((BitVec.ofInt IntKind.u64.bits (IntKind.u64.wrap (r*2^min (1:Int).toNat IntKind.u64.bits))|||BitVec.ofInt IntKind.u64.bits (l.fdiv (2^min (63:Int).toNat IntKind.u64.bits))).toNat:Nat):Int)=(2*r)%18446744073709551616+l/9223372036854775808:=by
 rw[FD];have e:IntKind.u64.wrap (r*2^min (1:Int).toNat IntKind.u64.bits)=(2*r)%18446744073709551616:=by
  show IntKind.u64.wrap (r*2)=_;rw[wm,wq]
 rw[e];unfold U at hl;rw[Yc 1 ((2*r)%18446744073709551616/2) (by omega) (by show _=_*(2:Int);omega) (by unfold U;omega) (by omega) (by show _<(2:Int);omega) (by unfold U;omega),wm];omega
theorem Mh(q:Int):IntKind.u64.wrap (((BitVec.ofInt IntKind.u64.bits (IntKind.u64.wrap (q*2^min (1:Int).toNat IntKind.u64.bits))|||BitVec.ofInt IntKind.u64.bits (1:Int)).toNat:Nat):Int)=(2*q)%18446744073709551616+1:=by
 have e:IntKind.u64.wrap (q*2^min (1:Int).toNat IntKind.u64.bits)=(2*q)%18446744073709551616:=by
  show IntKind.u64.wrap (q*2)=_;rw[wm,wq]
 rw[e,Yc 1 ((2*q)%18446744073709551616/2) (by omega) (by show _=_*(2:Int);omega) (by unfold U;omega) (by omega) (by show _<(2:Int);omega) (by unfold U;omega),wm];omega
theorem P8(q:Int):IntKind.u64.wrap (q*2^min (1:Int).toNat IntKind.u64.bits)=(2*q)%18446744073709551616:=by
 show IntKind.u64.wrap (q*2)=_;rw[wm,wq]
structure Dv(N c q r l:Int)(i:Nat):Prop where
 step:(q*c+r)*2^(64-i)+l/2^i=N
 r0:0≤r
 rc:r<c
 q0:0≤q
 ql:q<2^i
 ul:U l
 ld:l%2^i=0
 il:i≤64
theorem Dv.start{h l c:Int}(hl:U l)(hh:0≤h)(hc:h<c):Dv (h*18446744073709551616+l) c 0 h l 0:=by
 refine⟨?_,hh,hc,by omega,by omega,hl,by omega,by omega⟩;simp
theorem Dv.last{N c q r l:Int}(d:Dv N c q r l 64)(hc:0<c):q=N/c:=by
 have h:=d.step;have hl:=d.ul;unfold U at hl;have:l/2^64=0:=ML hl.1 hl.2;simp at h;rw[show(18446744073709551616:Int)=2^64 by decide,this]at h;have h:=h.symm;rw[h,Int.add_zero,Int.add_comm,Int.add_mul_ediv_right _ _ (by omega),ML d.r0 d.rc];omega
theorem Dv.next{N c q r l:Int}{i:Nat}(d:Dv N c q r l i)(hi:i<64):(2*r+l/9223372036854775808<c→Dv N c (2*q) (2*r+l/9223372036854775808) (2*l%18446744073709551616) (i+1))∧
  (c≤2*r+l/9223372036854775808→Dv N c (2*q+1) (2*r+l/9223372036854775808-c) (2*l%18446744073709551616) (i+1)):=by
 obtain⟨h1,h2,h3,h4,h5,h6,h7,h8⟩:=d;unfold U at h6;obtain⟨m,hm⟩:∃m:Int,l=m*2^i:=⟨l/2^i,(Int.ediv_mul_cancel (Int.dvd_of_emod_eq_zero h7)).symm⟩;have p:(0:Int)<2^i:=Int.pow_pos (by decide);have e1:l/2^i=m:=by rw[hm];exact Int.mul_ediv_cancel _ (by omega)
 obtain⟨b,hb⟩:∃b,l/9223372036854775808=b:=⟨_,rfl⟩;have hb01:b=0∨b=1:=by omega
 have e2:2*l%18446744073709551616=2*l-b*18446744073709551616:=by omega
 have hp:(2:Int)^(64-i)=2*2^(64-(i+1)):=by
  rw[show 64-i=(64-(i+1))+1 by omega,Int.pow_succ];omega
 have hpp:(2:Int)^(64-(i+1))*2^(i+1)=18446744073709551616:=by
  rw[←Int.pow_add,show 64-(i+1)+(i+1)=64 by omega];decide
 have hp1:(2:Int)^(i+1)=2*2^i:=by rw[Int.pow_succ];omega
 obtain⟨P,hP⟩:∃P:Int,(2:Int)^(64-(i+1))=P:=⟨_,rfl⟩;obtain⟨Q,hQ⟩:∃Q:Int,(2:Int)^i=Q:=⟨_,rfl⟩;rw[hp1,hQ,hP]at hpp;rw[hQ]at hm p e1 h5 h1;rw[hP]at hp;have e3:2*l-b*18446744073709551616=(m-b*P)*(2*Q):=by
  rw[←hpp,hm,Int.sub_mul];have:2*(m*Q)=m*(2*Q):=by rw[Int.mul_left_comm]
  rw[this,vg]
 have e4:(2*l%18446744073709551616)/2^(i+1)=m-b*P:=by
  rw[e2,e3,hp1,hQ];exact Int.mul_ediv_cancel _ (by omega)
 have e5:(2*l%18446744073709551616)%2^(i+1)=0:=by
  rw[e2,e3,hp1,hQ];exact Int.mul_emod_left _ _
 have hU:U (2*l%18446744073709551616):=by unfold U;omega
 rw[hb];rw[hp,e1]at h1;have key:(2*(q*c+r)+b)*P+(m-b*P)=N:=by
  rw[←h1,Int.add_mul];have:2*(q*c+r)*P=(q*c+r)*(2*P):=by rw[wq 2,vg]
  omega
 refine⟨λh=>⟨?_,by omega,h,by omega,by rw[hp1,hQ];omega,hU,e5,by omega⟩,λh=>⟨?_,by omega,by omega,by omega,by rw[hp1,hQ];omega,hU,e5,by omega⟩⟩
 ·rw[e4,hP,←key];have:2*q*c+(2*r+b)=2*(q*c+r)+b:=by rw[vg];omega
  rw[this]
 ·rw[e4,hP,←key];have:(2*q+1)*c+(2*r+b-c)=2*(q*c+r)+b:=by rw[Int.add_mul,vg];omega
  rw[this]
def zB(bw g:Int):Int:=pW bw g 256
def BH(bw bG g:Int):Int:=pW (pW bw bG 1000000000) g 256
def Az(bw bG g tso bn:Int):Int:=if bG=0 then qK 10 bn else if qK 4 bn>bA (BH bw bG g) (qK 3 tso)then qK 4 bn else bA (BH bw bG g) (qK 3 tso)
theorem aX(x:Int)(h:0≤x∧x<18446744073709551616:=by omega):U x:=h
theorem J7{bw g:Int}(hb:U bw)(hg:U g):U (zB bw g):=xX hb hg (aX 256)
theorem J5{bw bG g:Int}(hb:U bw)(hq:U bG)(hg:U g):U (BH bw bG g):=xX (xX hb hq (aX _)) hg (aX 256)
theorem Vc{bw bG g tso bn:Int}(hb:U bw)(hq:U bG)(hg:U g)(ht:U tso)(hm:U bn):U (Az bw bG g tso bn):=by
 unfold Az;split
 ·exact Dg (aX _) hm
 ·split
  ·exact Dg (aX _) hm
  ·exact ol (J5 hb hq hg) (Dg (aX _) ht)
end bB

namespace Wf
open bB
theorem u{n:Int}(h:(Lit.int .u64 n).wf=true):U n:=by
 have h:IntKind.u64.min≤n∧n≤IntKind.u64.max:=by simpa [Lit.wf]using h
 have e1:IntKind.u64.min=0:=by decide
 have e2:IntKind.u64.max=18446744073709551615:=by decide
 unfold U;omega
theorem i{n:Int}(h:(Lit.int .i64 n).wf=true):-9223372036854775808≤n∧n<9223372036854775808:=by
 have h:IntKind.i64.min≤n∧n≤IntKind.i64.max:=by simpa [Lit.wf]using h
 have e1:IntKind.i64.min=-9223372036854775808:=by decide
 have e2:IntKind.i64.max=9223372036854775807:=by decide
 omega
end Wf

namespace Tree
abbrev Nd:=Int×Int×Int×Int×Int
abbrev Key:=Int×Int
def kX(a b:Key):Bool:=decide (a.1<b.1)||(decide (a.1=b.1)&&decide (a.2<b.2))
theorem pV{a b:Key}:kX a b=true↔a.1<b.1∨(a.1=b.1∧a.2<b.2):=by simp[kX]
theorem sw(a:Key):kX a a=false:=by
 cases h:kX a a with
 |false=>rfl
 |true=>rw[pV]at h;omega
theorem v5{a b c:Key}(h:kX a b=true)(k:kX b c=true):kX a c=true:=by rw[pV]at*;omega
theorem DU{a b:Key}(h:kX a b=true):kX b a=false:=by
 cases h2:kX b a with
 |false=>rfl
 |true=>rw[pV]at*;omega
theorem HD{a b:Key}(h:a.1=b.1)(k:a.2=b.2):a=b:=by cases a;cases b;simp at h k;simp[h,k]
theorem HG{a b:Key}(h:kX a b=false)(hne:a≠b):kX b a=true:=by
 rw[pV];have h2:¬(a.1<b.1∨(a.1=b.1∧a.2<b.2)):=by rw[←pV,h];simp
 by_cases h1:a.1=b.1
 ·by_cases h3:a.2=b.2
  ·exact absurd (HD h1 h3) hne
  ·omega
 ·omega
inductive Tr where
 |e
 |n (l:Tr) (i:Nat) (k:Key) (r:Tr)
namespace Tr
def rt:Tr→Int
 |e=>-1
 |n _ i _ _=>i
def ht:Tr→Int
 |e=>0
 |n l _ _ r=>max l.ht r.ht+1
def cq:Tr→List Nat
 |e=>[]
 |n l i _ r=>l.cq++i::r.cq
def ino:Tr→List Key
 |e=>[]
 |n l _ k r=>l.ino++k::r.ino
def oT:Tr→Prop
 |e=>True
 |n l _ _ r=>l.oT∧r.oT∧l.ht≤r.ht+1∧r.ht≤l.ht+1
theorem w5:∀t:Tr,0≤t.ht
 |e=>by simp[ht]
 |n l _ _ r=>by have:=w5 l;simp only[ht];omega
theorem BX{t:Tr}(h:0<t.ht):∃l i k r,t=n l i k r:=by
 cases t with
 |e=>simp[ht]at h
 |n l i k r=>exact⟨_,_,_,_,rfl⟩
theorem Nf{t:Tr}{i:Nat}(h:t.rt=(i:Int)):i∈t.cq:=by
 cases t with
 |e=>simp only[rt]at h;omega
 |n l j k r=>
  have h:(j:Int)=i:=h;have h:j=i:=by omega
  simp[cq,h]
theorem B4:∀t:Tr,t.cq.length=t.ino.length
 |e=>rfl
 |n l i k r=>by simp[cq,ino,B4 l,B4 r]
end Tr
open Tr
def g_(l:List Nd):Tr→Prop
 |e=>True
 |n L i k R=>l[i]?=some (k.1,k.2,L.rt,R.rt,max L.ht R.ht+1)∧g_ l L∧g_ l R
theorem g_.frame{l l':List Nd}:∀{t:Tr},g_ l t→(∀j∈t.cq,l'[j]?=l[j]?)→g_ l' t
 |e,_,_=>trivial
 |n L i k R,⟨h1,h2,h3⟩,hf=>⟨by rw[hf i (by simp[cq])];exact h1,h2.frame λj hj=>hf j (by simp[cq,hj]),h3.frame λj hj=>hf j (by simp[cq,hj])⟩
theorem g_.lt{l:List Nd}:∀{t:Tr},g_ l t→∀j∈t.cq,j<l.length
 |e,_,_,hj=>by simp[cq]at hj
 |n L i k R,⟨h1,h2,h3⟩,j,hj=>by
  simp only[cq,eC,dO]at hj;rcases hj with hj|rfl|hj
  ·exact h2.lt j hj
  ·exact(gJ.1 h1).1
  ·exact h3.lt j hj
def nth(l:List Nd)(i:Int):Nd:=l.getD i.toNat (0,0,0,0,0)
abbrev lt(l:List Nd)(i:Int):Int:=(nth l i).2.2.1
abbrev bG(l:List Nd)(i:Int):Int:=(nth l i).2.2.2.1
def Aa(l:List Nd)(i:Int):Int:=if i=-1 then 0 else(nth l i).2.2.2.2
def a_(l:List Nd)(i:Int):List Nd:=l.set i.toNat ((nth l i).1,(nth l i).2.1,(nth l i).2.2.1,(nth l i).2.2.2.1,max (Aa l (lt l i)) (Aa l (bG l i))+1)
def cI(l:List Nd)(i v:Int):List Nd:=l.set i.toNat ((nth l i).1,(nth l i).2.1,v,(nth l i).2.2.2.1,(nth l i).2.2.2.2)
def cJ(l:List Nd)(i v:Int):List Nd:=l.set i.toNat ((nth l i).1,(nth l i).2.1,(nth l i).2.2.1,v,(nth l i).2.2.2.2)
def cX(l:List Nd)(i:Int):List Nd×Int:=(a_ (a_ (cI (cJ l i (lt l (bG l i))) (bG l i) i) i) (bG l i),bG l i)
def db(l:List Nd)(i:Int):List Nd×Int:=(a_ (a_ (cJ (cI l i (bG l (lt l i))) (lt l i) i) i) (lt l i),lt l i)
def ib(l:List Nd)(i:Int):Int:=Aa l (lt l i)-Aa l (bG l i)
def fJ(l:List Nd)(i:Int):List Nd×Int:=
 if ib (a_ l i) i>1 then
  db (if ib (a_ l i) (lt (a_ l i) i)<0 then cI (cX (a_ l i) (lt (a_ l i) i)).1 i (cX (a_ l i) (lt (a_ l i) i)).2 else a_ l i) i
 else if ib (a_ l i) i< -1 then
  cX (if ib (a_ l i) (bG (a_ l i) i)>0 then cJ (db (a_ l i) (bG (a_ l i) i)).1 i (db (a_ l i) (bG (a_ l i) i)).2 else a_ l i) i
 else(a_ l i,i)
theorem gh{l:List Nd}{i:Nat}{x:Nd}(h:l[i]?=some x):nth l (i:Int)=x:=by
 simp[nth,Bc,h]
theorem rp{l:List Nd}{t:Tr}(h:g_ l t):Aa l t.rt=t.ht:=by
 cases t with
 |e=>simp[Aa,rt,ht]
 |n L i k R=>
  have e:(i:Int)≠-1:=by omega
  simp only[Aa,rt,ay e,gh h.1,ht]
theorem GW{l:List Nd}{i:Nat}{x:Nd}(y:Nd)(h:l[i]?=some x):(l.set i y)[i]?=some y:=by
 rw[rJ (gJ.1 h).1]
theorem uU{l:List Nd}{i:Nat}{k:Key}{L R:Tr}{h0:Int}(h:l[i]?=some (k.1,k.2,L.rt,R.rt,h0))(hL:g_ l L)(hR:g_ l R):(a_ l i)[i]?=some (k.1,k.2,L.rt,R.rt,max L.ht R.ht+1):=by
 have e1:lt l (i:Int)=L.rt:=by rw[lt,gh h]
 have e2:bG l (i:Int)=R.rt:=by rw[bG,gh h]
 simp only[a_,gh h,e1,e2,rp hL,rp hR,eR];exact GW _ h
theorem gH{l:List Nd}{i j:Nat}(h:j≠i):(a_ l i)[j]?=l[j]?:=by
 simp only[a_,eR];exact xd (lS h)
theorem vw{l:List Nd}{i:Nat}{x:Nd}(v:Int)(h:l[i]?=some x):(cI l i v)[i]?=some (x.1,x.2.1,v,x.2.2.2.1,x.2.2.2.2):=by
 simp only[cI,gh h,eR];exact GW _ h
theorem jJ{l:List Nd}{i j:Nat}{v:Int}(h:j≠i):(cI l i v)[j]?=l[j]?:=by
 simp only[cI,eR];exact xd (lS h)
theorem vz{l:List Nd}{i:Nat}{x:Nd}(v:Int)(h:l[i]?=some x):(cJ l i v)[i]?=some (x.1,x.2.1,x.2.2.1,v,x.2.2.2.2):=by
 simp only[cJ,gh h,eR];exact GW _ h
theorem jK{l:List Nd}{i j:Nat}{v:Int}(h:j≠i):(cJ l i v)[j]?=l[j]?:=by
 simp only[cJ,eR];exact xd (lS h)
theorem gd(l:List Nd)(i:Int):(a_ l i).length=l.length:=by simp[a_]
theorem cA(l:List Nd)(i v:Int):(cI l i v).length=l.length:=by simp[cI]
theorem cC(l:List Nd)(i v:Int):(cJ l i v).length=l.length:=by simp[cJ]
theorem sP(l:List Nd)(i:Int):(cX l i).1.length=l.length:=by simp[cX,gd,cA,cC]
theorem sQ(l:List Nd)(i:Int):(db l i).1.length=l.length:=by simp[db,gd,cA,cC]
theorem pe(l:List Nd)(i:Int):(fJ l i).1.length=l.length:=by
 unfold fJ;split
 ·rw[sQ];split<;>simp[cA,sP,gd]
 ·split
  ·rw[sP];split<;>simp[cC,sQ,gd]
  ·exact gd _ _
theorem wJ{l:List Nd}{A B C:Tr}{i j:Nat}{k m:Key}{h0 h1:Int}(hi:l[i]?=some (k.1,k.2,A.rt,(j:Int),h0))(hj:l[j]?=some (m.1,m.2,B.rt,C.rt,h1))(hA:g_ l A)(hB:g_ l B)(hC:g_ l C)
  (hd:(A.cq++i::(B.cq++j::C.cq)).Nodup):(cX l i).2=j∧g_ (cX l i).1 (n (n A i k B) j m C)∧∀p,p≠i→p≠j→(cX l i).1[p]?=l[p]?:=by
 simp only[jE,kU,eC,dO,qa]at hd;obtain⟨dA,⟨⟨iB,ij,iC⟩,dB,⟨jC,dC⟩,dBC⟩,dA'⟩:=hd;have er:bG l (i:Int)=j:=by rw[bG,gh hi]
 have e1:lt l (j:Int)=B.rt:=by rw[lt,gh hj]
 have a1:=vz B.rt hi;have a2:(cJ l i B.rt)[j]?=_:=(jK (lS ij)).trans hj;have b2:=vw (i:Int) a2;have b1:(cI (cJ l i B.rt) j i)[i]?=_:=(jJ ij).trans a1;have fA:∀p∈A.cq,p≠i∧p≠j:=λp hp=>⟨λe=>dA' p hp i (.inl rfl) e,λe=>dA' p hp j (.inr (.inr (.inl rfl))) e⟩;have fB:∀p∈B.cq,p≠i∧p≠j:=λp hp=>⟨λe=>iB (e▸hp),λe=>dBC p hp j (.inl rfl) e⟩;have fC:∀p∈C.cq,p≠i∧p≠j:=λp hp=>⟨λe=>iC (e▸hp),λe=>jC (e▸hp)⟩;have fr:∀p,p≠i→p≠j→(cI (cJ l i B.rt) j i)[p]?=l[p]?:=λp h1 h2=>(jJ h2).trans (jK h1);have gA:g_ (cI (cJ l i B.rt) j i) A:=hA.frame λp hp=>fr p (fA p hp).1 (fA p hp).2;have gB:g_ (cI (cJ l i B.rt) j i) B:=hB.frame λp hp=>fr p (fB p hp).1 (fB p hp).2;have gC:g_ (cI (cJ l i B.rt) j i) C:=hC.frame λp hp=>fr p (fC p hp).1 (fC p hp).2;have c1:=uU b1 gA gB;have kA:g_ (a_ (cI (cJ l i B.rt) j i) i) A:=gA.frame λp hp=>gH (fA p hp).1;have kB:g_ (a_ (cI (cJ l i B.rt) j i) i) B:=gB.frame λp hp=>gH (fB p hp).1;have kC:g_ (a_ (cI (cJ l i B.rt) j i) i) C:=gC.frame λp hp=>gH (fC p hp).1;have kI:g_ (a_ (cI (cJ l i B.rt) j i) i) (n A i k B):=⟨c1,kA,kB⟩;have c2:(a_ (cI (cJ l i B.rt) j i) i)[j]?=some (m.1,m.2,(n A i k B).rt,C.rt,h1):=(gH (lS ij)).trans b2;have d:=uU c2 kI kC;have et:cX l i=(a_ (a_ (cI (cJ l i B.rt) j i) i) j,(j:Int)):=by simp only[cX,er,e1]
 rw[et];have fI:∀p∈(n A i k B).cq,p≠j:=λp hp=>by
  simp only[cq,eC,dO]at hp;rcases hp with hp|rfl|hp
  ·exact(fA p hp).2
  ·exact ij
  ·exact(fB p hp).2
 exact⟨rfl,⟨d,kI.frame λp hp=>gH (fI p hp),kC.frame λp hp=>gH (fC p hp).2⟩,λp h1 h2=>(gH h2).trans ((gH h1).trans (fr p h1 h2))⟩
theorem wL{l:List Nd}{A B C:Tr}{i j:Nat}{k m:Key}{h0 h1:Int}(hi:l[i]?=some (k.1,k.2,(j:Int),C.rt,h0))(hj:l[j]?=some (m.1,m.2,A.rt,B.rt,h1))(hA:g_ l A)(hB:g_ l B)(hC:g_ l C)
  (hd:((A.cq++j::B.cq)++i::C.cq).Nodup):(db l i).2=j∧g_ (db l i).1 (n A j m (n B i k C))∧∀p,p≠i→p≠j→(db l i).1[p]?=l[p]?:=by
 simp only[jE,kU,eC,dO]at hd;obtain⟨⟨dA,⟨jB,dB⟩,dAB⟩,⟨iC,dC⟩,dd⟩:=hd;have ij:i≠j:=λe=>dd j (.inr (.inl rfl)) i (.inl rfl) e.symm;have er:lt l (i:Int)=j:=by rw[lt,gh hi]
 have e1:bG l (j:Int)=B.rt:=by rw[bG,gh hj]
 have a1:=vw B.rt hi;have a2:(cI l i B.rt)[j]?=_:=(jJ (lS ij)).trans hj;have b2:=vz (i:Int) a2;have b1:(cJ (cI l i B.rt) j i)[i]?=_:=(jK ij).trans a1;have fA:∀p∈A.cq,p≠i∧p≠j:=λp hp=>⟨λe=>dd p (.inl hp) i (.inl rfl) e,λe=>dAB p hp j (.inl rfl) e⟩;have fB:∀p∈B.cq,p≠i∧p≠j:=λp hp=>⟨λe=>dd p (.inr (.inr hp)) i (.inl rfl) e,λe=>jB (e▸hp)⟩;have fC:∀p∈C.cq,p≠i∧p≠j:=λp hp=>⟨λe=>iC (e▸hp),λe=>dd j (.inr (.inl rfl)) p (.inr hp) e.symm⟩;have fr:∀p,p≠i→p≠j→(cJ (cI l i B.rt) j i)[p]?=l[p]?:=λp h1 h2=>(jK h2).trans (jJ h1);have gA:g_ (cJ (cI l i B.rt) j i) A:=hA.frame λp hp=>fr p (fA p hp).1 (fA p hp).2;have gB:g_ (cJ (cI l i B.rt) j i) B:=hB.frame λp hp=>fr p (fB p hp).1 (fB p hp).2;have gC:g_ (cJ (cI l i B.rt) j i) C:=hC.frame λp hp=>fr p (fC p hp).1 (fC p hp).2;have c1:=uU b1 gB gC;have kA:g_ (a_ (cJ (cI l i B.rt) j i) i) A:=gA.frame λp hp=>gH (fA p hp).1;have kB:g_ (a_ (cJ (cI l i B.rt) j i) i) B:=gB.frame λp hp=>gH (fB p hp).1;have kC:g_ (a_ (cJ (cI l i B.rt) j i) i) C:=gC.frame λp hp=>gH (fC p hp).1;have kI:g_ (a_ (cJ (cI l i B.rt) j i) i) (n B i k C):=⟨c1,kB,kC⟩;have c2:(a_ (cJ (cI l i B.rt) j i) i)[j]?=some (m.1,m.2,A.rt,(n B i k C).rt,h1):=(gH (lS ij)).trans b2;have d:=uU c2 kA kI;have et:db l i=(a_ (a_ (cJ (cI l i B.rt) j i) i) j,(j:Int)):=by simp only[db,er,e1]
 rw[et];have fI:∀p∈(n B i k C).cq,p≠j:=λp hp=>by
  simp only[cq,eC,dO]at hp;rcases hp with hp|rfl|hp
  ·exact(fB p hp).2
  ·exact ij
  ·exact(fC p hp).2
 exact⟨rfl,⟨d,kA.frame λp hp=>gH (fA p hp).2,kI.frame λp hp=>gH (fI p hp)⟩,λp h1 h2=>(gH h2).trans ((gH h1).trans (fr p h1 h2))⟩
structure Evn(l l':List Nd)(r:Int)(L:Tr)(i:Nat)(k:Key)(R T:Tr):Prop where
 root:r=T.rt
 kf:g_ l' T
 oT:T.oT
 ino:T.ino=L.ino++k::R.ino
 cq:T.cq=L.cq++i::R.cq
 fr:∀p,p∉L.cq++i::R.cq→l'[p]?=l[p]?
 lo:max L.ht R.ht≤T.ht
 hi:T.ht≤max L.ht R.ht+1
 st:L.ht≤R.ht+1→R.ht≤L.ht+1→T.ht=max L.ht R.ht+1
theorem DJ{l:List Nd}{L R:Tr}{i:Nat}{k:Key}{h0:Int}(hi:l[i]?=some (k.1,k.2,L.rt,R.rt,h0))(hL:g_ l L)(hR:g_ l R)(aL:L.oT)(aR:R.oT)(hd:(L.cq++i::R.cq).Nodup)
  (h1:L.ht≤R.ht+2) (h2:R.ht≤L.ht+2):∃T,Evn l (fJ l i).1 (fJ l i).2 L i k R T:=by
 have hd0:=hd;simp only[jE,kU,dO]at hd;obtain⟨dL,⟨iR,dR⟩,dd⟩:=hd;have iL:i∉L.cq:=λhp=>dd i hp i (.inl rfl) rfl;have m1:=uU hi hL hR;have mf:∀p,p≠i→(a_ l i)[p]?=l[p]?:=λp hp=>gH hp;have gL:g_ (a_ l i) L:=hL.frame λp hp=>mf p λe=>iL (e▸hp);have gR:g_ (a_ l i) R:=hR.frame λp hp=>mf p λe=>iR (e▸hp);have el:lt (a_ l i) (i:Int)=L.rt:=by rw[lt,gh m1]
 have er:bG (a_ l i) (i:Int)=R.rt:=by rw[bG,gh m1]
 have en:ib (a_ l i) i=L.ht-R.ht:=by rw[ib,el,er,rp gL,rp gR]
 by_cases c1:L.ht-R.ht>1
 ·have hR0:=R.w5;obtain⟨a,j,m,b,hLn⟩:=BX (t:=L) (by omega);subst hLn;have gj:=gL.1;have eln:ib (a_ l i) (j:Int)=a.ht-b.ht:=by rw[ib,lt,bG,gh gj];exact congr (jF _ (rp gL.2.1)) (rp gL.2.2)
  have hj':(n a j m b).rt=(j:Int):=rfl;rw[hj']at el;obtain⟨aa,ab,a1,a2⟩:=aL;simp only[ht]at h1 h2 c1;by_cases c2:a.ht-b.ht<0
  ·have ha0:=a.w5;obtain⟨b1,x,y,b2,hb⟩:=BX (t:=b) (by omega);subst hb;have gb:=gL.2.2;have hn1:(a.cq++j::(b1.cq++x::b2.cq)).Nodup:=dL;obtain⟨t2,tr,tf⟩:=wJ (A:=a) (B:=b1) (C:=b2) (i:=j) (j:=x) (k:=m) (m:=y) gj gb.1 gL.2.1 gb.2.1 gb.2.2 hn1;have xi:x≠i:=λe=>iL (by rw[←e];simp[cq]);have ji:j≠i:=λe=>iL (by rw[←e];simp[cq]);have u1:(cX (a_ l i) j).1[i]?=_:=(tf i (lS ji) (lS xi)).trans m1;have u2:=vw ((x:Nat):Int) u1;have ids1:∀p,p∈(n (n a j m b1) x y b2).cq→p≠i:=λp hp e=>iL (by rw[←e];simp only[cq,kR,mY]at hp⊢;exact hp);have v1:g_ (cI (cX (a_ l i) j).1 i x) (n (n a j m b1) x y b2):=tr.frame λp hp=>jJ (ids1 p hp);have v2:g_ (cI (cX (a_ l i) j).1 i x) R:=gR.frame λp hp=>(jJ (show p≠i from λe=>iR (e▸hp))).trans (tf p (λe=>dd j (by simp[cq]) p (.inr hp) e.symm) (λe=>dd x (by simp[cq]) p (.inr hp) e.symm));have hn2:(((n a j m b1).cq++x::b2.cq)++i::R.cq).Nodup:=(by simp only[cq,kR,mY]at hd0⊢;exact hd0);obtain⟨w2,wr,wf⟩:=wL (A:=n a j m b1) (B:=b2) (C:=R) (i:=i) (j:=x) (k:=k) (m:=y) u2 v1.1 v1.2.1 v1.2.2 v2 hn2;simp only[oT,ht]at ab a1 a2 c1 c2 h1 h2;have ee:fJ l i=db (cI (cX (a_ l i) j).1 i x) i:=by
    rw[fJ,aC (by rw[en];simp only[ht];omega),el,aC (by rw[eln];simp only[ht];omega),t2]
   refine⟨n (n a j m b1) x y (n b2 i k R),?_⟩;rw[ee];refine⟨w2,wr,?_,by simp[ino],by simp[cq],λp hp=>?_,?_,?_,?_⟩
   ·simp only[oT,ht];refine⟨⟨aa,ab.1,?_,?_⟩,⟨ab.2.1,aR,?_,?_⟩,?_,?_⟩<;>omega
   ·simp only[cq,eC,dO,qa]at hp;obtain⟨⟨p1,p2,p3,p4,p5⟩,p6,p7⟩:=hp;rw[wf p p6 p4,jJ p6,tf p p2 p4,mf p p6]
   ·simp only[ht];omega
   ·simp only[ht];omega
   ·simp only[ht];omega
  ·obtain⟨w2,wr,wf⟩:=wL (A:=a) (B:=b) (C:=R) (i:=i) (j:=j) (k:=k) (m:=m) m1 gj gL.2.1 gL.2.2 gR hd0;have ee:fJ l i=db (a_ l i) i:=by
    rw[fJ,aC (by rw[en];simp only[ht];omega),el,ay (by rw[eln];exact c2)]
   refine⟨n a j m (n b i k R),?_⟩;rw[ee];refine⟨w2,wr,?_,by simp[ino],by simp[cq],λp hp=>?_,?_,?_,?_⟩
   ·simp only[oT,ht];refine⟨aa,⟨ab,aR,?_,?_⟩,?_,?_⟩<;>omega
   ·simp only[cq,eC,dO,qa]at hp;obtain⟨⟨p1,p2,p3⟩,p6,p7⟩:=hp;rw[wf p p6 p2,mf p p6]
   ·simp only[ht];omega
   ·simp only[ht];omega
   ·simp only[ht];omega
 ·by_cases c3:L.ht-R.ht< -1
  ·have hL0:=L.w5;obtain⟨a,j,m,b,hRn⟩:=BX (t:=R) (by omega);subst hRn;have gj:=gR.1;have eln:ib (a_ l i) (j:Int)=a.ht-b.ht:=(by rw[ib,lt,bG,gh gj];exact congr (jF _ (rp gR.2.1)) (rp gR.2.2));have hj':(n a j m b).rt=(j:Int):=rfl;rw[hj']at er;obtain⟨aa,ab,a1,a2⟩:=aR;simp only[ht]at h1 h2 c3;by_cases c2:a.ht-b.ht>0
   ·have hb0:=b.w5;obtain⟨b1,x,y,b2,hb⟩:=BX (t:=a) (by omega);subst hb;have gb:=gR.2.1;have hn1:((b1.cq++x::b2.cq)++j::b.cq).Nodup:=dR;obtain⟨t2,tr,tf⟩:=wL (A:=b1) (B:=b2) (C:=b) (i:=j) (j:=x) (k:=m) (m:=y) gj gb.1 gb.2.1 gb.2.2 gR.2.2 hn1;have xi:x≠i:=λe=>iR (by rw[←e];simp[cq]);have ji:j≠i:=λe=>iR (by rw[←e];simp[cq]);have u1:(db (a_ l i) j).1[i]?=_:=(tf i (lS ji) (lS xi)).trans m1;have u2:=vz ((x:Nat):Int) u1;have ids1:∀p,p∈(n b1 x y (n b2 j m b)).cq→p≠i:=λp hp e=>iR (by rw[←e];simp only[cq,kR,mY]at hp⊢;exact hp);have v1:g_ (cJ (db (a_ l i) j).1 i x) (n b1 x y (n b2 j m b)):=tr.frame λp hp=>jK (ids1 p hp);have v2:g_ (cJ (db (a_ l i) j).1 i x) L:=gL.frame λp hp=>(jK (show p≠i from λe=>iL (e▸hp))).trans (tf p (λe=>dd p hp j (.inr (by simp[cq])) e) (λe=>dd p hp x (.inr (by simp[cq])) e));have hn2:(L.cq++i::(b1.cq++x::(n b2 j m b).cq)).Nodup:=(by simp only[cq,kR,mY]at hd0⊢;exact hd0);obtain⟨w2,wr,wf⟩:=wJ (A:=L) (B:=b1) (C:=n b2 j m b) (i:=i) (j:=x) (k:=k) (m:=y) u2 v1.1 v2 v1.2.1 v1.2.2 hn2;simp only[oT,ht]at aa a1 a2 c3 c2 h1 h2;have ee:fJ l i=cX (cJ (db (a_ l i) j).1 i x) i:=by
     rw[fJ,ay (by rw[en];simp only[ht];omega),aC (by rw[en];simp only[ht];omega),er,aC (by rw[eln];simp only[ht];omega),t2]
    refine⟨n (n L i k b1) x y (n b2 j m b),?_⟩;rw[ee];refine⟨w2,wr,?_,by simp[ino],by simp[cq],λp hp=>?_,?_,?_,?_⟩
    ·simp only[oT,ht];refine⟨⟨aL,aa.1,?_,?_⟩,⟨aa.2.1,ab,?_,?_⟩,?_,?_⟩<;>omega
    ·simp only[cq,eC,dO,qa]at hp;obtain⟨p1,p2,⟨p3,p4,p5⟩,p6,p7⟩:=hp;rw[wf p p2 p4,jK p2,tf p p6 p4,mf p p2]
    ·simp only[ht];omega
    ·simp only[ht];omega
    ·simp only[ht];omega
   ·obtain⟨w2,wr,wf⟩:=wJ (A:=L) (B:=a) (C:=b) (i:=i) (j:=j) (k:=k) (m:=m) m1 gj gL gR.2.1 gR.2.2 hd0;have ee:fJ l i=cX (a_ l i) i:=by
     rw[fJ,ay (by rw[en];simp only[ht];omega),aC (by rw[en];simp only[ht];omega),er,ay (by rw[eln];exact c2)]
    refine⟨n (n L i k a) j m b,?_⟩;rw[ee];refine⟨w2,wr,?_,by simp[ino],by simp[cq],λp hp=>?_,?_,?_,?_⟩
    ·simp only[oT,ht];refine⟨⟨aL,aa,?_,?_⟩,ab,?_,?_⟩<;>omega
    ·simp only[cq,eC,dO,qa]at hp;obtain⟨p1,p2,p3,p4,p5⟩:=hp;rw[wf p p2 p4,mf p p2]
    ·simp only[ht];omega
    ·simp only[ht];omega
    ·simp only[ht];omega
  ·have ee:fJ l i=(a_ l i,(i:Int)):=(by rw[fJ,ay (by rw[en];exact c1),ay (by rw[en];exact c3)]);refine⟨n L i k R,?_⟩;rw[ee];refine⟨rfl,⟨m1,gL,gR⟩,⟨aL,aR,by omega,by omega⟩,rfl,rfl,λp hp=>mf p λe=>hp (by rw[e];simp),?_,?_,?_⟩
   ·show _≤max L.ht R.ht+1;omega
   ·exact ku _
   ·intro _ _;rfl
end Tree

namespace Tree
open Tr
inductive je where
 |L (i:Nat) (k:Key) (r:Tr)
 |R (l:Tr) (i:Nat) (k:Key)
def je.i:je→Nat
 |.L i _ _=>i
 |.R _ i _=>i
def je.put:je→Tr→Tr
 |.L i k r,t=>n t i k r
 |.R l i k,t=>n l i k t
def fill:Tr→List je→Tr
 |t,[]=>t
 |t,f::c=>fill (f.put t) c
def lc:List je→List Nat
 |[]=>[]
 |.L _ _ _::c=>lc c
 |.R l i _::c=>lc c++l.cq++[i]
def rc:List je→List Nat
 |[]=>[]
 |.L i _ r::c=>i::(r.cq++rc c)
 |.R _ _ _::c=>rc c
def lk:List je→List Key
 |[]=>[]
 |.L _ _ _::c=>lk c
 |.R l _ k::c=>lk c++l.ino++[k]
def rk:List je→List Key
 |[]=>[]
 |.L _ k r::c=>k::(r.ino++rk c)
 |.R _ _ _::c=>rk c
theorem lz:∀(c:List je) (t:Tr),(fill t c).cq=lc c++t.cq++rc c
 |[],t=>by simp[fill,lc,rc]
 |.L i k r::c,t=>by rw[fill,lz c];simp[je.put,cq,lc,rc]
 |.R l i k::c,t=>by rw[fill,lz c];simp[je.put,cq,lc,rc]
theorem nK:∀(c:List je) (t:Tr),(fill t c).ino=lk c++t.ino++rk c
 |[],t=>by simp[fill,lk,rk]
 |.L i k r::c,t=>by rw[fill,nK c];simp[je.put,ino,lk,rk]
 |.R l i k::c,t=>by rw[fill,nK c];simp[je.put,ino,lk,rk]
theorem my:∀{c:List je} {t:Tr},(fill t c).oT→t.oT
 |[],_,h=>h
 |.L i k r::c,t,h=>(my (c:=c) h).1
 |.R l i k::c,t,h=>(my (c:=c) h).2.1
def Ah(l:List Nd):Int→List je→Prop
 |_,[]=>True
 |hole,.L i k r::c=>(∃h,l[i]?=some (k.1,k.2,hole,r.rt,h))∧g_ l r∧Ah l i c
 |hole,.R s i k::c=>(∃h,l[i]?=some (k.1,k.2,s.rt,hole,h))∧g_ l s∧Ah l i c
theorem jH{l:List Nd}:∀{c:List je} {t:Tr},g_ l (fill t c)→g_ l t∧Ah l t.rt c
 |[],_,h=>⟨h,trivial⟩
 |.L i k r::c,t,h=>by
  obtain⟨⟨h1,h2,h3⟩,h4⟩:=jH (c:=c) h;exact⟨h2,⟨_,h1⟩,h3,h4⟩
 |.R s i k::c,t,h=>by
  obtain⟨⟨h1,h2,h3⟩,h4⟩:=jH (c:=c) h;exact⟨h3,⟨_,h1⟩,h2,h4⟩
theorem Ah.frame{l l':List Nd}:∀{c:List je} {hole:Int},Ah l hole c→(∀j,j∈lc c∨j∈rc c→l'[j]?=l[j]?)→Ah l' hole c
 |[],_,_,_=>trivial
 |.L i k r::c,hole,⟨⟨h,h1⟩,h2,h3⟩,hf=>⟨⟨h,by rw[hf i (.inr (by simp[rc]))];exact h1⟩,h2.frame λj hj=>hf j (.inr (by simp[rc,hj])),h3.frame λj hj=>hf j (hj.imp (λx=>x) λx=>by simp[rc,x])⟩
 |.R s i k::c,hole,⟨⟨h,h1⟩,h2,h3⟩,hf=>⟨⟨h,by rw[hf i (.inl (by simp[lc]))];exact h1⟩,h2.frame λj hj=>hf j (.inl (by simp[lc,hj])),h3.frame λj hj=>hf j (hj.imp (λx=>by simp[lc,x]) λx=>x)⟩
def nE:Tr→Bool
 |.e=>false
 |.n _ _ _ _=>true
def lu(l:List Nd)(was i:Int):List Int→List Nd×Int
 |[]=>(l,i)
 |up::c=>let l1:=if lt l up=was then cI l up i else cJ l up i
  lu (fJ l1 up).1 up (fJ l1 up).2 c
def jn(l:List Nd)(i:Int):Key:=((nth l i).1,(nth l i).2.1)
def ia(l:List Nd)(was i:Int):List Int→List Nd×Int
 |[]=>(l,i)
 |up::c=>let l1:=if lt l up=was∧(was≠-1∨kX (jn l i) (jn l up)=true)then cI l up i else cJ l up i
  ia (fJ l1 up).1 up (fJ l1 up).2 c
theorem AU:∀(c:List Int) (l:List Nd) (was i:Int),was≠-1→(∀x∈c,x≠-1)→ia l was i c=lu l was i c
 |[],l,was,i,_,_=>rfl
 |up::c,l,was,i,h,hc=>by
  simp only[ia,lu,h,ne_eq,vf,true_or,and_true];exact AU c _ _ _ (hc up (by simp)) λx hx=>hc x (by simp[hx])
theorem AJ:∀(c:List Int) (l:List Nd) (was i:Int),(lu l was i c).1.length=l.length
 |[],l,was,i=>rfl
 |up::c,l,was,i=>by
  simp only[lu];rw[AJ c,pe];split<;>simp[cA,cC]
theorem AS:∀(c:List Int) (l:List Nd) (was i:Int),(ia l was i c).1.length=l.length
 |[],l,was,i=>rfl
 |up::c,l,was,i=>by
  simp only[ia];rw[AS c,pe];split<;>simp[cA,cC]
def gz(c:List je):List Int:=c.map λf=>(f.i:Int)
structure WW(l l':List Nd)(r:Int)(s:Tr)(c:List je)(T:Tr):Prop where
 root:r=T.rt
 kf:g_ l' T
 oT:T.oT
 ino:T.ino=lk c++s.ino++rk c
 cq:T.cq=lc c++s.cq++rc c
 fr:∀p,p∉lc c++s.cq++rc c→l'[p]?=l[p]?
def Knw(t s:Tr)(c:List je)(was:Int):Prop:=(∃w:Nat,was=w∧t.rt=w)∨(was=-1∧t=.e∧∃i k,s=.n .e i k .e∧(∀m∈lk c,kX m k=true)∧∀m∈rk c,kX k m=true)
theorem uN:∀(c:List je) (l:List Nd) (t s:Tr) (was:Int),Knw t s c was→Ah l was c→g_ l s→(fill t c).oT→s.oT→s.ht≤t.ht+1→t.ht≤s.ht+1→(lc c++t.cq++rc c).Nodup→(lc c++s.cq++rc c).Nodup→
  ∃T,WW l (ia l was s.rt (gz c)).1 (ia l was s.rt (gz c)).2 s c T
 |[],l,t,s,was,_,_,hs,_,as,_,_,_,_=>⟨s,rfl,hs,as,by simp[lk,rk],by simp[lc,rc],λp hp=>rfl⟩
 |.L i k r::c,l,t,s,was,hw,⟨⟨h0,hi⟩,hr,hc⟩,hs,ha,as,g1,g2,d1,d2=>by
  have hv:=my (c:=c) (t:=n t i k r) ha;have e1:lt l (i:Int)=was∧(was≠-1∨kX (jn l s.rt) (jn l i)=true):=by
   refine⟨by rw[lt,gh hi],?_⟩;rcases hw with⟨w,rfl,_⟩|⟨_,_,j,k',rfl,_,hk⟩
   ·left;omega
   ·right;have e2:jn l (i:Int)=k:=by rw[jn,gh hi]
    have e3:jn l (n e j k' e).rt=k':=by
     show jn l (j:Int)=k';rw[jn,gh hs.1]
    rw[e2,e3];exact hk k (by simp[rk])
  have d2':=d2;simp only[lc,rc,jE,kU,eC,dO,qa]at d2;obtain⟨⟨dl,ds,dls⟩,⟨⟨ir,ic⟩,dr,dc,drc⟩,dd⟩:=d2;have is:i∉s.cq:=λhx=>dd i (.inr hx) i (.inl rfl) rfl;have il:i∉lc c:=λhx=>dd i (.inl hx) i (.inl rfl) rfl;have a1:=vw s.rt hi;have fs:g_ (cI l i s.rt) s:=hs.frame λp hp=>jJ (show p≠i from λe=>is (e▸hp));have fr:g_ (cI l i s.rt) r:=hr.frame λp hp=>jJ (show p≠i from λe=>ir (e▸hp));have hn:(s.cq++i::r.cq).Nodup:=by
   rw[jE,kU];refine⟨ds,⟨ir,dr⟩,λa ha b hb=>dd a (.inr ha) b ?_⟩;rw[dO]at hb;exact hb.imp (λx=>x) .inl
  obtain⟨T,ev⟩:=DJ (k:=k) a1 fs fr as hv.2.1 hn (by have:=hv.2.2;omega) (by have:=hv.2.2;omega);have fc:Ah (fJ (cI l i s.rt) i).1 i c:=hc.frame λj hj=>by
   have ne:j∉s.cq++i::r.cq:=λhx=>by
    rw[eC,dO]at hx;rcases hx with hx|rfl|hx
    ·rcases hj with hj|hj
     ·exact dls j hj j hx rfl
     ·exact dd j (.inr hx) j (.inr (.inr hj)) rfl
    ·exact hj.elim il ic
    ·rcases hj with hj|hj
     ·exact dd j (.inl hj) j (.inr (.inl hx)) rfl
     ·exact drc j hx j hj rfl
   rw[ev.fr j ne];exact jJ (show j≠i from λe=>ne (by rw[e];simp))
  have r1:=ev.root;obtain⟨lo,hi',st⟩:=(⟨ev.lo,ev.hi,ev.st⟩:_∧_∧_);have av:=hv.2.2;obtain⟨T',mv⟩:=uN c (fJ (cI l i s.rt) i).1 (n t i k r) T i (.inl ⟨i,rfl,rfl⟩) fc ev.kf ha ev.oT (by simp only[ht];omega) (by simp only[ht];omega)
   (by simpa [lc,rc,cq]using d1) (by rw[ev.cq];simpa [lc,rc]using d2')
  refine⟨T',?_⟩;have e2:ia l was s.rt (gz (.L i k r::c))=ia (fJ (cI l i s.rt) i).1 i T.rt (gz c):=by
   simp only[gz,kq,je.i,ia,aC e1];rw[r1]
  rw[e2];refine⟨mv.root,mv.kf,mv.oT,by rw[mv.ino,ev.ino];simp[lk,rk],by rw[mv.cq,ev.cq];simp[lc,rc],λp hp=>?_⟩;have hp2:p∉lc c++T.cq++rc c:=by rw[ev.cq];simpa [lc,rc]using hp
  have hp3:p∉s.cq++i::r.cq:=λhx=>hp (by
   simp only[eC,dO,lc,rc]at hx⊢;rcases hx with hx|hx|hx
   ·exact .inl (.inr hx)
   ·exact .inr (.inl hx)
   ·exact .inr (.inr (.inl hx)))
  rw[mv.fr p hp2,ev.fr p hp3];exact jJ (show p≠i from λe=>hp3 (by rw[e];simp))
 |.R q i k::c,l,t,s,was,hw,⟨⟨h0,hi⟩,hr,hc⟩,hs,ha,as,g1,g2,d1,d2=>by
  have hv:=my (c:=c) (t:=n q i k t) ha;have e1:¬(lt l (i:Int)=was∧(was≠-1∨kX (jn l s.rt) (jn l i)=true)):=by
   rintro⟨e,e0⟩;rw[lt,gh hi]at e;rcases hw with⟨w,rfl,hw⟩|⟨h1,_,j,k',rfl,hk,_⟩
   ·have m1:=Nf (t:=q) (i:=w) e;have m2:=Nf (t:=t) hw;simp only[lc,jE]at d1;exact d1.1.2.2 w (by simp[m1]) w m2 rfl
   ·rcases e0 with e0|e0
    ·exact e0 h1
    ·have e2:jn l (i:Int)=k:=(by rw[jn,gh hi]);have e3:jn l (n Tr.e j k' Tr.e).rt=k':=by
      show jn l (j:Int)=k';rw[jn,gh hs.1]
     rw[e2,e3,DU (hk k (by simp[lk]))]at e0;cases e0
  have d2':=d2;simp only[lc,rc,jE,kU,eC,dO,jY,qa,List.not_mem_nil,vf,or_false,List.nodup_nil,and_true,true_and]at d2;obtain⟨⟨⟨⟨dl,dq,dlq⟩,di⟩,ds,dls⟩,dr,dd⟩:=d2;have is:i∉s.cq:=λhx=>dls i (.inr rfl) i hx rfl;have iq:i∉q.cq:=λhx=>di i (.inr hx) i rfl rfl;have il:i∉lc c:=λhx=>di i (.inl hx) i rfl rfl;have ic:i∉rc c:=λhx=>dd i (.inl (.inr rfl)) i hx rfl;have a1:=vz s.rt hi;have fs:g_ (cJ l i s.rt) s:=hs.frame λp hp=>jK (show p≠i from λe=>is (e▸hp));have fr:g_ (cJ l i s.rt) q:=hr.frame λp hp=>jK (show p≠i from λe=>iq (e▸hp));have hn:(q.cq++i::s.cq).Nodup:=by
   rw[jE,kU];refine⟨dq,⟨is,ds⟩,λa hx b hb=>?_⟩;rw[dO]at hb;rcases hb with rfl|hb
   ·exact di a (.inr hx) b rfl
   ·exact dls a (.inl (.inr hx)) b hb
  obtain⟨T,ev⟩:=DJ (k:=k) a1 fr fs hv.1 as hn (by have:=hv.2.2;omega) (by have:=hv.2.2;omega);have fc:Ah (fJ (cJ l i s.rt) i).1 i c:=hc.frame λj hj=>by
   have ne:j∉q.cq++i::s.cq:=λhx=>by
    rw[eC,dO]at hx;rcases hx with hx|rfl|hx
    ·rcases hj with hj|hj
     ·exact dlq j hj j hx rfl
     ·exact dd j (.inl (.inl (.inr hx))) j hj rfl
    ·exact hj.elim il ic
    ·rcases hj with hj|hj
     ·exact dls j (.inl (.inl hj)) j hx rfl
     ·exact dd j (.inr hx) j hj rfl
   rw[ev.fr j ne];exact jK (show j≠i from λe=>ne (by rw[e];simp))
  have r1:=ev.root;obtain⟨lo,hi',st⟩:=(⟨ev.lo,ev.hi,ev.st⟩:_∧_∧_);have av:=hv.2.2;obtain⟨T',mv⟩:=uN c (fJ (cJ l i s.rt) i).1 (n q i k t) T i (.inl ⟨i,rfl,rfl⟩) fc ev.kf ha ev.oT (by simp only[ht];omega) (by simp only[ht];omega)
   (by simpa [lc,rc,cq]using d1) (by rw[ev.cq];simpa [lc,rc]using d2')
  refine⟨T',?_⟩;have e2:ia l was s.rt (gz (.R q i k::c))=ia (fJ (cJ l i s.rt) i).1 i T.rt (gz c):=by
   simp only[gz,kq,je.i,ia,ay e1];rw[r1]
  rw[e2];refine⟨mv.root,mv.kf,mv.oT,by rw[mv.ino,ev.ino];simp[lk,rk],by rw[mv.cq,ev.cq];simp[lc,rc],λp hp=>?_⟩;have hp2:p∉lc c++T.cq++rc c:=by rw[ev.cq];simpa [lc,rc]using hp
  have hp3:p∉q.cq++i::s.cq:=λhx=>hp (by
   simp only[eC,dO,lc,rc,jY]at hx⊢;rcases hx with hx|hx|hx
   ·exact .inl (.inl (.inl (.inr hx)))
   ·exact .inl (.inl (.inr (.inl hx)))
   ·exact .inl (.inr hx))
  rw[mv.fr p hp2,ev.fr p hp3];exact jK (show p≠i from λe=>hp3 (by rw[e];simp))
def find(k:Key):Tr→List je→Tr×List je
 |.e,c=>(.e,c)
 |.n l i m r,c=>if kX k m then find k l (.L i m r::c)else if k=m then(.n l i m r,c)else find k r (.R l i m::c)
theorem Uy(c:List je):∀x∈gz c,x≠-1:=by
 intro x hx;obtain⟨f,_,rfl⟩:=rP.1 hx;omega
theorem nq(k:Key):∀(t:Tr) (c:List je),fill (find k t c).1 (find k t c).2=fill t c
 |.e,c=>rfl
 |.n l i m r,c=>by
  unfold find;split
  ·rw[nq k l];rfl
  ·split
   ·rfl
   ·rw[nq k r];rfl
def z_(l:List Key):Prop:=l.Pairwise λa b=>kX a b=true
theorem uJ(k:Key):∀(t:Tr) (c:List je),z_ t.ino→(∀m∈lk c,kX m k=true)→(∀m∈rk c,kX k m=true)→
  (∀m∈lk (find k t c).2,kX m k=true)∧(∀m∈rk (find k t c).2,kX k m=true)∧((find k t c).1=.e∨∃l i r,(find k t c).1=.n l i k r)
 |.e,c,_,h1,h2=>⟨h1,h2,.inl rfl⟩
 |.n l i m r,c,hs,h1,h2=>by
  simp only[ino,z_,zb,tq]at hs;obtain⟨s1,⟨s2,s3⟩,s4⟩:=hs;unfold find;by_cases c1:kX k m=true
  ·rw[aC c1];refine uJ k l _ s1 h1 λx hx=>?_;simp only[rk,dO,eC]at hx;rcases hx with rfl|hx|hx
   ·exact c1
   ·exact v5 c1 (s2 x hx)
   ·exact h2 x hx
  ·rw[ay c1];by_cases c2:k=m
   ·rw[aC c2];exact⟨h1,h2,.inr ⟨l,i,r,by rw[c2]⟩⟩
   ·rw[ay c2];have c3:=HG (by simpa using c1) c2;refine uJ k r _ s3 (λx hx=>?_) h2;simp only[lk,eC,jY]at hx;rcases hx with(hx|hx)|rfl
    ·exact h1 x hx
    ·exact v5 (s4 x hx m (by simp)) c3
    ·exact c3
def fL:Tr→List je→Tr×List je
 |.e,c=>(.e,c)
 |.n .e i m r,c=>(.n .e i m r,c)
 |.n (.n a j x b) i m r,c=>fL (.n a j x b) (.L i m r::c)
theorem tW:∀(t:Tr) (c:List je),fill (fL t c).1 (fL t c).2=fill t c
 |.e,c=>rfl
 |.n .e i m r,c=>rfl
 |.n (.n a j x b) i m r,c=>by rw[fL,tW (.n a j x b)];rfl
theorem B3:∀(t:Tr) (c:List je),t≠.e→∃j m b,(fL t c).1=.n .e j m b∧∃d,(fL t c).2=d++c∧lk d=[]∧lc d=[]
 |.e,c,h=>absurd rfl h
 |.n .e i m r,c,_=>⟨i,m,r,rfl,[],rfl,rfl,rfl⟩
 |.n (.n a j x b) i m r,c,_=>by
  obtain⟨j',m',b',h1,d,h2,h3,h4⟩:=B3 (.n a j x b) (.L i m r::c) (by simp);have lkd:∀d:List je,lk d=[]→lk (d++[.L i m r])=[]:=by
   intro d
   induction d with
   |nil=>intro _;rfl
   |cons f d ih=>cases f<;>simp[lk]<;>exact ih
  have lcd:∀d:List je,lc d=[]→lc (d++[.L i m r])=[]:=by
   intro d
   induction d with
   |nil=>intro _;rfl
   |cons f d ih=>cases f<;>simp[lc]<;>exact ih
  exact⟨j',m',b',h1,d++[.L i m r],by rw[fL,h2];simp,lkd d h3,lcd d h4⟩
theorem z_.A4{a b:List Key}{k m:Key}(h:z_ (a++k::b)):(∀x∈a,kX x k=true)∧(∀x∈b,kX k x=true):=by
 simp only[z_,zb,tq]at h;exact⟨λx hx=>h.2.2 x hx k (by simp),h.2.1.1⟩
theorem z_.put{a b:List Key}{k:Key}(h:z_ (a++b))(h1:∀x∈a,kX x k=true)(h2:∀x∈b,kX k x=true):z_ (a++k::b):=by
 simp only[z_,zb,tq,dO]at h⊢;refine⟨h.1,⟨h2,h.2.1⟩,λx hx y hy=>?_⟩;rcases hy with rfl|hy
 ·exact h1 x hx
 ·exact h.2.2 x hx y hy
theorem z_.nodup{a:List Key}(h:z_ a):a.Nodup:=h.imp λ{x y} hxy e=>by rw[e,sw]at hxy;cases hxy
theorem Pu{l l1:List Nd}{T:Tr}{k:Key}{c:List je}{i:Nat}(hT:g_ l T)(hf:find k T []=(.e,c))(ha:T.oT)(hd:T.cq.Nodup)(hs:z_ T.ino)(hi:i∉T.cq)(h1:l1[i]?=some (k.1,k.2,-1,-1,1))(hr:∀j∈T.cq,l1[j]?=l[j]?):
  ∃T',WW l1 (ia l1 (-1) i (gz c)).1 (ia l1 (-1) i (gz c)).2 (.n .e i k .e) c T'∧T.ino=lk c++rk c∧T.cq=lc c++rc c∧(∀m∈lk c,kX m k=true)∧∀m∈rk c,kX k m=true:=by
 have e:=nq k T [];rw[hf]at e;have e:fill .e c=T:=e;have hl:=uJ k T [] hs (by simp[lk]) (by simp[rk]);rw[hf]at hl;obtain⟨g1,g2,_⟩:=hl;have ei:T.cq=lc c++rc c:=by rw[←e,lz];simp[cq]
 have eo:T.ino=lk c++rk c:=by rw[←e,nK];simp[ino]
 have hR:g_ l1 T:=hT.frame hr;rw[←e]at hR ha;have hd2:(lc c++(n Tr.e i k Tr.e).cq++rc c).Nodup:=by
  rw[ei]at hd hi;simp only[cq,oE,kR,Cj];rw[jE]at hd⊢;rw[eC,qa]at hi;refine⟨hd.1,kU.2 ⟨hi.2,hd.2.1⟩,λa ha b hb=>?_⟩;rcases dO.1 hb with rfl|hb
  ·exact λe=>hi.1 (e▸ha)
  ·exact hd.2.2 a ha b hb
 obtain⟨T',mv⟩:=uN c l1 .e (.n .e i k .e) (-1) (.inr ⟨rfl,rfl,i,k,rfl,g1,g2⟩) (jH hR).2 ⟨h1,trivial,trivial⟩ ha ⟨trivial,trivial,by simp[ht],by simp[ht]⟩ (by simp[ht]) (by simp[ht])
  (by rw[ei]at hd;simpa [cq]using hd) hd2
 exact⟨T',mv,eo,ei,g1,g2⟩
def Ar:Tr→Tr→Tr
 |.e,b=>b
 |.n l i k r,_=>.n l i k r
theorem K8{l:List Nd}{T a b:Tr}{k:Key}{c:List je}{i:Nat}(hT:g_ l T)(hf:T=fill (.n a i k b) c)(hab:a=.e∨b=.e)(ha:T.oT)(hd:T.cq.Nodup):
  ∃T' s,s=Ar a b∧WW l (lu l i s.rt (gz c)).1 (lu l i s.rt (gz c)).2 s c T'∧s.ino=a.ino++b.ino∧s.cq=a.cq++b.cq:=by
 subst hf;obtain⟨h1,h2⟩:=jH hT;have ea:=my ha;have hs:g_ l (Ar a b)∧(Ar a b).oT∧(Ar a b).ht+1=(n a i k b).ht∧(Ar a b).ino=a.ino++b.ino∧(Ar a b).cq=a.cq++b.cq:=by
  cases a with
  |e=>
   refine⟨h1.2.2,ea.2.1,?_,rfl,rfl⟩;have:=b.w5;simp only[ht,Ar];omega
  |n l i k r=>
   have c2:b=.e:=hab.resolve_left (by simp);refine⟨h1.2.1,ea.1,?_,by rw[c2];simp[ino,Ar],by rw[c2];simp[cq,Ar]⟩;have:=(n l i k r).w5;rw[c2];simp only[ht,Ar]at this⊢;omega
 obtain⟨q1,q2,q3,q4,q5⟩:=hs;have hd1:(lc c++(n a i k b).cq++rc c).Nodup:=by rw[←lz];exact hd
 have hd2:(lc c++(Ar a b).cq++rc c).Nodup:=by
  rw[q5];refine hd1.sublist ?_;simp only[cq];exact((Gj _).append ((Gj _).append (List.sublist_cons_self _ _))).append (Gj _)
 obtain⟨T',mv⟩:=uN c l (.n a i k b) (Ar a b) i (.inl ⟨i,rfl,rfl⟩) h2 q1 ha q2 (by omega) (by omega) hd1 hd2;refine⟨T',_,rfl,?_,q4,q5⟩;rw[←AU _ _ _ _ (by omega) (Uy c)];exact mv
end Tree

namespace fZ
open bB
structure Wn where
 w:Int
 t0:Int
 v0:Int
 t1:Int
 v1:Int
 t2:Int
 v2:Int
 la:Int
structure uk(v:Wn):Prop where
 w:U v.w
 t0:U v.t0
 v0:U v.v0
 t1:U v.t1
 v1:U v.v1
 t2:U v.t2
 v2:U v.v2
 la:U v.la
def Wn.all(v:Wn)(t x:Int):Wn:={v with t0:=t,v0:=x,t1:=t,v1:=x,t2:=t,v2:=x}
def Wn.xM(v:Wn)(t x:Int):Wn:={v with t1:=t,v1:=x,t2:=t,v2:=x}
def Wn.s2(v:Wn)(t x:Int):Wn:={v with t2:=t,v2:=x}
def Wn.push(v:Wn)(t x:Int):Wn:={v with t0:=v.t1,v0:=v.v1,t1:=v.t2,v1:=v.v2,t2:=t,v2:=x}
def oU(t s w:Int):Prop:=dF t s>w
instance(t s w:Int):Decidable (oU t s w):=by unfold oU;infer_instance
def z5(v:Wn)(t x:Int):Wn:=if x≥v.v1 then v.xM t x else if x≥v.v2 then v.s2 t x else v
def vJ(v:Wn)(t x:Int):Wn:=
 if oU t v.t0 v.w then(if oU t v.t1 v.w then(v.push t x).push t x else v.push t x)
 else if v.t1=v.t0∧oU t v.t0 (v.w/4)then v.xM t x
 else if v.t2=v.t1∧oU t v.t0 (v.w/2)then v.s2 t x else v
def Wn.tick(v:Wn)(t:Int):Wn:={v with la:=if t>v.la then t else v.la}
def wU(v:Wn)(t x:Int):Wn:=if x≥v.v0∨oU t v.t2 v.w then v.all t x else vJ (z5 v t x) t x
def z6(v:Wn)(t x:Int):Wn:=wU (v.tick t) (v.tick t).la x
theorem uk.all{v:Wn}(h:uk v){t x:Int}(ht:U t)(hx:U x):uk (v.all t x):=⟨h.w,ht,hx,ht,hx,ht,hx,h.la⟩
theorem uk.xM{v:Wn}(h:uk v){t x:Int}(ht:U t)(hx:U x):uk (v.xM t x):=⟨h.w,h.t0,h.v0,ht,hx,ht,hx,h.la⟩
theorem uk.s2{v:Wn}(h:uk v){t x:Int}(ht:U t)(hx:U x):uk (v.s2 t x):=⟨h.w,h.t0,h.v0,h.t1,h.v1,ht,hx,h.la⟩
theorem uk.push{v:Wn}(h:uk v){t x:Int}(ht:U t)(hx:U x):uk (v.push t x):=⟨h.w,h.t1,h.v1,h.t2,h.v2,ht,hx,h.la⟩
theorem uk.tick{v:Wn}(h:uk v){t:Int}(ht:U t):uk (v.tick t):=⟨h.w,h.t0,h.v0,h.t1,h.v1,h.t2,h.v2,by
 show U (if _ then _ else _);split
 ·exact ht
 ·exact h.la⟩
theorem uk.z5{v:Wn}(h:uk v){t x:Int}(ht:U t)(hx:U x):uk (z5 v t x):=by
 unfold fZ.z5;split
 ·exact h.xM ht hx
 ·split
  ·exact h.s2 ht hx
  ·exact h
theorem uk.vJ{v:Wn}(h:uk v){t x:Int}(ht:U t)(hx:U x):uk (vJ v t x):=by
 unfold fZ.vJ;split
 ·split
  ·exact(h.push ht hx).push ht hx
  ·exact h.push ht hx
 ·split
  ·exact h.xM ht hx
  ·split
   ·exact h.s2 ht hx
   ·exact h
theorem uk.wU{v:Wn}(h:uk v){t x:Int}(ht:U t)(hx:U x):uk (wU v t x):=by
 unfold fZ.wU;split
 ·exact h.all ht hx
 ·exact(h.z5 ht hx).vJ ht hx
theorem uk.z6{v:Wn}(h:uk v){t x:Int}(ht:U t)(hx:U x):uk (z6 v t x):=(h.tick ht).wU (h.tick ht).la hx
abbrev Sm:Type:=Int×Int×Int×Int×Int×Int×Int×Int×Bool
abbrev iw(s:Sm):Int:=s.1
abbrev gp(s:Sm):Int:=s.2.1
abbrev ED(s:Sm):Int:=s.2.2.1
abbrev zU(s:Sm):Int:=s.2.2.2.1
abbrev Nh(s:Sm):Int:=s.2.2.2.2.1
abbrev fj(s:Sm):Int:=s.2.2.2.2.2.1
abbrev gr(s:Sm):Int:=s.2.2.2.2.2.2.1
abbrev kd(s:Sm):Int:=s.2.2.2.2.2.2.2.1
abbrev qN(s:Sm):Bool:=s.2.2.2.2.2.2.2.2
structure oX(s:Sm):Prop where
 ao:U (iw s)
 del:U (gp s)
 pri:U (ED s)
 UW:U (zU s)
 bG:U (Nh s)
 Dh:U (fj s)
 be:U (gr s)
 UK:U (kd s)
structure NP where
 n:Int
 nx:Int
structure JZ(r:NP):Prop where
 n:U r.n
 nx:U r.nx
def rB(r:NP)(s:Sm):Bool:=decide (fj s>0)&&!decide (ED s<r.nx)
def rU(r:NP)(s:Sm):NP:=if rB r s then⟨IntKind.u64.wrap (r.n+1),gp s⟩else r
theorem JZ.rU{r:NP}(h:JZ r){s:Sm}(hs:oX s):JZ (rU r s):=by
 unfold fZ.rU;split
 ·exact⟨tI _,hs.del⟩
 ·exact h
structure Pp where
 dg:Int
 n:Int
 full:Bool
structure UE(p:Pp):Prop where
 dg:U p.dg
 n:0≤p.n∧p.n≤3
 full:p.full=false→p.n<3
def pU(p:Pp)(start limited:Bool)(bw:Int):Pp:=
 if !p.full&&start&&!limited then
  (if bw≥pW p.dg 320 256 then⟨bw,0,p.full⟩else⟨p.dg,p.n+1,decide (p.n+1=3)⟩)
 else p
theorem UE.pU{p:Pp}(h:UE p){a b:Bool}{bw:Int}(hb:U bw):UE (pU p a b bw):=by
 unfold fZ.pU;split
 ·rename_i hc;have hf:p.full=false:=by simp at hc;exact hc.1.1
  have hn:=h.full hf;have:=h.n;split
  ·exact⟨hb,by simp,λ_=>by simp⟩
  ·exact⟨h.dg,by simp;omega,λhh=>by simp at hh⊢;omega⟩
 ·exact h
structure Cy where
 ph:Int
 kE:Int
structure Af(c:Cy):Prop where
 ph:0≤c.ph∧c.ph<8
 kE:U c.kE
def K0(ao ph:Int):Cy:=⟨ph%8,ao⟩
def cB(c:Cy)(ao bG be fl up one:Int):Bool:=
 if c.ph=0 then decide (dF ao c.kE>bG)&&(decide (be>0)||decide (fl≥up))
 else if c.ph=1 then decide (dF ao c.kE>bG)||decide (fl≤one)else decide (dF ao c.kE>bG)
def cU(c:Cy)(ao bG be fl up one:Int):Cy:=if cB c ao bG be fl up one then K0 ao (c.ph+1)else c
def cG(c:Cy):Int:=if c.ph=0 then 320 else if c.ph=1 then 192 else 256
theorem Af.st{ao ph:Int}(h:U ao):Af (K0 ao ph):=⟨by unfold K0;dsimp only;omega,h⟩
theorem Af.cU{c:Cy}(h:Af c){ao bG be fl up one:Int}(hn:U ao):Af (cU c ao bG be fl up one):=by
 unfold fZ.cU;split
 ·exact Af.st hn
 ·exact h
structure Pb where
 dg:Int
 kE:Int
 on:Bool
 jN:Int
 rd:Bool
structure Im(b:Pb):Prop where
 dg:U b.dg
 kE:U b.kE
 jN:U b.jN
def Ak(b:Pb)(ao:Int):Bool:=decide (b.dg>0)&&decide (ao>bA b.kE 10000000000)
def ya(b:Pb)(ao bG:Int):Bool:=decide (bG>0)&&(decide (b.dg=0)||(decide (bG≤b.dg)||Ak b ao))
def lr(b:Pb)(ao bG:Int):Pb:=if ya b ao bG then{b with dg:=bG,kE:=ao}else b
def BG(b:Pb)(ao:Int)(start:Bool)(fl floor:Int):Bool×Pb:=
 if b.jN=0 then(if fl≤floor then(false,{b with jN:=bA ao 200000000,rd:=false})else(false,b))
 else if !(b.rd||start)then(false,{b with rd:=b.rd||start})
 else if ao≤b.jN then(false,{b with rd:=b.rd||start})
 else(true,{b with rd:=b.rd||start,kE:=ao,on:=false})
def bU(b:Pb)(ao bG:Int)(start:Bool)(fl floor:Int):(Bool×Bool)×Pb:=
 if Ak b ao&&!b.on then((true,false),{lr b ao bG with on:=true,jN:=0,rd:=false})
 else if b.on then((false,(BG (lr b ao bG) ao start fl floor).1),(BG (lr b ao bG) ao start fl floor).2)
 else((false,false),lr b ao bG)
theorem Im.new{b:Pb}(h:Im b){ao bG:Int}(hn:U ao)(hr:U bG):Im (lr b ao bG):=by
 unfold lr;split
 ·exact⟨hr,hn,h.jN⟩
 ·exact h
theorem Im.lv{b:Pb}(h:Im b){ao fl floor:Int}{st:Bool}(hn:U ao):Im (BG b ao st fl floor).2:=by
 unfold BG;split
 ·split
  ·exact⟨h.dg,h.kE,ol hn (aX _)⟩
  ·exact h
 ·split
  ·exact⟨h.dg,h.kE,h.jN⟩
  ·split
   ·exact⟨h.dg,h.kE,h.jN⟩
   ·exact⟨h.dg,hn,h.jN⟩
theorem Im.bU{b:Pb}(h:Im b){ao bG fl floor:Int}{st:Bool}(hn:U ao)(hr:U bG):Im (bU b ao bG st fl floor).2:=by
 have:=h.new hn hr;unfold fZ.bU;split
 ·exact⟨this.dg,this.kE,aX 0⟩
 ·split
  ·exact this.lv hn
  ·exact this
structure Pl where
 iO:Bool
 uq:Bool
 bw:Int
 n:Int
 be:Int
 t0:Int
 d0:Int
 l0:Int
structure qF(q:Pl):Prop where
 bw:U q.bw
 n:0≤q.n∧q.n≤48
 be:U q.be
 t0:U q.t0
 d0:U q.d0
 l0:U q.l0
 nu:q.iO=true→q.n<48
 nm:q.iO=false→q.uq=true→q.n≤16
def Iy(a b:Int):Int:=a/2+b/2+(a%2+b%2)/2
def apart(a b:Int):Int:=if a<b then b-a else a-b
theorem U_{a b:Int}(ha:U a)(hb:U b):U (Iy a b):=by unfold U Iy at*;omega
def nR(q:Pl)(s:Sm):Option Int:=
 if dF (gp s) q.d0=0∨dF (iw s) q.t0=0 then none
 else if dF q.be q.l0<pW (dF (gp s) q.d0) 50 256 then none
 else some (pW (dF (gp s) q.d0) 1000000000 (dF (iw s) q.t0))
def kJ(q:Pl)(s:Sm):Pl:={q with uq:=true,n:=0,t0:=iw s,d0:=gp s,l0:=q.be}
def gi(q:Pl):Pl:={q with iO:=false,uq:=false,bw:=0}
def wg(q:Pl)(s:Sm)(r:Int):Pl:=if q.bw>0∧apart q.bw r≤q.bw/8 then{q with bw:=Iy q.bw r,iO:=true,n:=0}else kJ {q with bw:=r} s
def sZ(q:Pl)(s:Sm):Pl:=match nR q s with
 |none=>q
 |some r=>wg q s r
def lI(q:Pl)(s:Sm):Pl:={q with be:=bA q.be (gr s)}
def fU(q:Pl)(o:Bool):Pl:=if o then{q with n:=q.n+1}else q
def Cc(q:Pl)(o:Bool)(s:Sm):Pl:=
 if q.iO then(if o=true∧q.n=48 then{gi q with n:=0}else q)
 else if q.n>16 then gi q
 else if q.n≥4∧gr s>0 then sZ q s else q
def xu(q:Pl)(o:Bool)(s:Sm):Pl:=
 if q.iO=false∧q.uq=false then(if gr s>0 then kJ (lI q s) s else lI q s)
 else if q.iO=false∧qN s=true then gi (lI q s)
 else Cc (fU (lI q s) o) o s
theorem qF.begin{q:Pl}{s:Sm}(hb:U q.bw)(hl:U q.be)(hs:oX s):qF (kJ q s):=
 ⟨hb,by simp[kJ],hl,hs.ao,hs.del,hl,λ_=>by simp[kJ],λ_ _=>by simp[kJ]⟩
theorem qF.lB{q:Pl}(h:qF q):qF (gi q):=⟨aX 0,h.n,h.be,h.t0,h.d0,h.l0,λhh=>by simp[gi]at hh,λ_ hh=>by simp[gi]at hh⟩
theorem qF.add{q:Pl}(h:qF q){s:Sm}(hs:oX s):qF (lI q s):=⟨h.bw,h.n,ol h.be hs.be,h.t0,h.d0,h.l0,h.nu,h.nm⟩
theorem E9{q:Pl}(h:qF q){s:Sm}(hs:oX s){r:Int}(hr:nR q s=some r):U r:=by
 unfold nR at hr;split at hr
 ·cases hr
 ·split at hr
  ·cases hr
  ·cases hr;exact xX (mS hs.del h.d0) (aX _) (mS hs.ao h.t0)
theorem qF.got{q:Pl}(h:qF q){s:Sm}(hs:oX s){r:Int}(hr:U r):qF (wg q s r):=by
 unfold wg;split
 ·exact⟨U_ h.bw hr,by simp,h.be,h.t0,h.d0,h.l0,λ_=>by simp,λ_ _=>by simp⟩
 ·exact qF.begin hr h.be hs
theorem qF.VB{q:Pl}(h:qF q){s:Sm}(hs:oX s):qF (sZ q s):=by
 unfold sZ;split
 ·exact h
 ·rename_i r hr;exact h.got hs (E9 h hs hr)
theorem T8{q:Pl}(h:qF q){o:Bool}{s:Sm}(hs:oX s)(hm:q.iO=false→q.uq=true):qF (Cc (fU q o) o s):=by
 obtain⟨iO,uq,bw,n,be,t0,d0,l0⟩:=q;have h1:=h.n;have h2:=h.nu;have h3:=h.nm;dsimp only at h1 h2 h3 hm;cases o with
 |false=>
  show qF (Cc _ false s);unfold Cc;simp only[fU,iW,iX,false_and];split
  ·exact h
  ·split
   ·exact h.lB
   ·split
    ·exact h.VB hs
    ·exact h
 |true=>
  unfold Cc;simp only[fU,gU,true_and];split
  ·rename_i hu;have hu:iO=true:=hu;have:=h2 hu;split
   ·exact⟨aX 0,by simp,h.be,h.t0,h.d0,h.l0,(λhh=>by simp[gi]at hh),(λ_ hh=>by simp[gi]at hh)⟩
   ·rename_i h48;exact⟨h.bw,(by dsimp only;omega),h.be,h.t0,h.d0,h.l0,(λ_=>by dsimp only;omega),(λhh=>by dsimp only at hh;rw[hu]at hh;cases hh)⟩
  ·rename_i hu;have hu:iO=false:=by simpa using hu
   have:=h3 hu (hm hu);split
   ·exact⟨aX 0,(by simp[gi];omega),h.be,h.t0,h.d0,h.l0,(λhh=>by simp[gi]at hh),(λ_ hh=>by simp[gi]at hh)⟩
   ·rename_i h16;have hk:qF ⟨iO,uq,bw,n+1,be,t0,d0,l0⟩:=⟨h.bw,(by dsimp only;omega),h.be,h.t0,h.d0,h.l0,(λhh=>by dsimp only at hh;rw[hu]at hh;cases hh),(λ_ _=>by dsimp only;omega)⟩;split
    ·exact hk.VB hs
    ·exact hk
theorem qF.dj{q:Pl}(h:qF q){o:Bool}{s:Sm}(hs:oX s):qF (xu q o s):=by
 unfold xu;split
 ·split
  ·exact qF.begin h.bw (ol h.be hs.be) hs
  ·exact h.add hs
 ·rename_i h0;split
  ·exact(h.add hs).lB
  ·exact T8 (h.add hs) hs (λhu=>by
    have hu:q.iO=false:=hu;cases hm:q.uq with
    |false=>exact absurd ⟨hu,hm⟩ h0
    |true=>exact hm)
end fZ

namespace eH
open bB fZ
structure Md where
 w:Wn
 r:NP
 p:Pp
 c:Cy
 b:Pb
 q:Pl
 bn:Int
 mode:Int
 aQ:Int
 cv:Int
 gq:Int
 lJ:Bool
 first:Bool
 jN:Int
structure fP(m:Md):Prop where
 w:uk m.w
 r:JZ m.r
 p:UE m.p
 c:Af m.c
 b:Im m.b
 q:qF m.q
 bn:100≤m.bn∧m.bn≤9000
 mode:0≤m.mode∧m.mode≤3
 aQ:U m.aQ
 cv:U m.cv
 gq:U m.gq
 jN:U m.jN
def yI(m:Md):Int:=if m.q.iO then m.q.bw else m.w.v0
def rD(m:Md)(g:Int):Int:=BH (yI m) m.b.dg g
def fm(m:Md):Int:=if m.mode=0 then 739 else if m.mode=1 then 88 else if m.mode=2∧m.q.iO=false then cG m.c else 256
def jA(m:Md):Int:=if m.mode=2 then 512 else if m.mode=3 then 256 else 739
def jc(m:Md):Int:=4*m.bn
theorem fP.bw{m:Md}(h:fP m):U (yI m):=by
 unfold yI;split
 ·exact h.q.bw
 ·exact h.w.v0
theorem W6(c:Cy):U (cG c):=by
 unfold cG;split
 ·exact aX _
 ·split<;>exact aX _
theorem E8(m:Md):U (fm m):=by
 unfold fm;split
 ·exact aX _
 ·split
  ·exact aX _
  ·split
   ·exact W6 _
   ·exact aX _
theorem E_(m:Md):U (jA m):=by
 unfold jA;split
 ·exact aX _
 ·split<;>exact aX _
theorem fP.PB{m:Md}(h:fP m):U m.bn:=by have:=h.bn;unfold U;omega
theorem fP.floor{m:Md}(h:fP m):U (jc m):=by have:=h.bn;unfold U jc;omega
def mK(s:Sm):Int:=pW (dF (gp s) (ED s)) 1000000000 (zU s)
def eP(m:Md)(s:Sm):Md:=if fj s=0∨zU s=0 then m else if qN s=false∨mK s≥m.w.v0 then{m with w:=z6 m.w m.r.n (mK s)}else m
def gW(m:Md)(s:Sm):Md:=if m.mode=2∧m.q.iO=false then{m with c:=cU m.c (iw s) m.b.dg (gr s) (kd s) (rD m 320) (rD m 256)}else m
abbrev jW(m:Md)(o:Bool)(s:Sm):Md:={m with p:=pU m.p o (qN s) m.w.v0}
abbrev eG(m:Md)(ao:Int):Md:={m with mode:=2,c:=K0 ao 2}
def qJ(m:Md):Md:=if m.mode=0∧m.p.full=true then{m with mode:=1}else m
def sC(m:Md)(s:Sm):Md:=if m.mode=1∧m.b.dg>0∧kd s≤rD m 256 then eG m (iw s)else m
abbrev fS(m:Md):Md:={m with cv:=if m.gq>m.cv then m.gq else m.cv,gq:=0}
abbrev Ab(m:Md)(s:Sm)(o:Bool):(Bool×Bool)×Pb:=bU m.b (iw s) (Nh s) o (kd s) (jc m)
def gY(m:Md)(r:Bool×Bool)(ao:Int):Md:=
 if r.1 then{m with gq:=if m.cv>m.gq then m.cv else m.gq,mode:=3}
 else if r.2 then(if m.p.full then eG {fS m with mode:=0} ao else{fS m with mode:=0})
 else m
def lM(m:Md)(s:Sm)(o:Bool):Md:=gY {m with b:=(Ab m s o).2} (Ab m s o).1 (iw s)
def Jc(m:Md):Int:=if 1>zB (yI m) (fm m)then 1 else zB (yI m) (fm m)
def dD(m:Md):Md:=if yI m=0 then m else if m.p.full=true∨Jc m>m.aQ then{m with aQ:=Jc m}else m
def jV(m:Md):Md:=if m.mode≠3 then fS {m with lJ:=false,first:=false}else{m with lJ:=false,first:=false}
def bq(m:Md)(s:Sm)(o:Bool):Md:=
 if gr s>0∧m.lJ=false then{m with lJ:=true,first:=true,jN:=bA (gp s) (kd s),gq:=if m.cv>m.gq then m.cv else m.gq}
 else if m.lJ=true then(if gp s<m.jN then{m with first:=m.first&&!o}else jV {m with first:=m.first&&!o})
 else m
abbrev xt(m:Md)(s:Sm):Md:={m with cv:=if m.bn>dF m.cv (gr s)then m.bn else dF m.cv (gr s)}
def nN(m:Md)(tso:Int):Int:=Az (yI m) m.b.dg (jA m) tso m.bn
def tj(m:Md)(s:Sm)(tso:Int):Md:=
  if m.first then{m with cv:=if bA (kd s) (fj s)>m.cv then bA (kd s) (fj s)else m.cv}
  else if fj s>0 then
    (if m.p.full then{m with cv:=if nN m tso<bA m.cv (fj s)then nN m tso else bA m.cv (fj s)}
     else if m.cv<nN m tso∨gp s<10*m.bn then{m with cv:=bA m.cv (fj s)}else m)
  else m
abbrev C3(m:Md):Md:={m with cv:=if jc m>m.cv then jc m else m.cv}
def Jd(m:Md):Md:=if m.mode=3 then{m with cv:=jc m}else m
def ej(m:Md)(s:Sm)(tso:Int):Md:=Jd (C3 (tj (xt m s) s tso))
abbrev C2(m:Md)(s:Sm):Md:={m with r:=rU m.r s,q:=xu m.q (rB m.r s) s}
def Py(m:Md)(o:Bool)(s:Sm):Md:=lM (sC (qJ (jW (gW (eP m s) s) o s)) s) s o
def LX(m:Md)(o:Bool)(s:Sm)(tso:Int):Md:=ej (bq (dD m) s o) s tso
def oP(m:Md)(s:Sm)(tso:Int):Md:=LX (Py (C2 m s) (rB m.r s) s) (rB m.r s) s tso
abbrev St:Type:=Int×Int×Int×Int×Int×Int×Int×Int×Bool×Bool
def Ac(m:Md):St:=(m.mode,m.c.ph,m.aQ,m.cv,yI m,m.b.dg,fm m,m.r.n,m.p.full,m.q.iO)
theorem Aj{p:Prop}[Decidable p]{a b:Int}(ha:U a)(hb:U b):U (if p then a else b):=by split<;>assumption
theorem fP.PA{m:Md}(h:fP m){s:Sm}(hs:oX s):fP (eP m s):=by
 unfold eP;split
 ·exact h
 ·split
  ·exact{h with w:=h.w.z6 h.r.n (xX (mS hs.del hs.pri) (aX _) hs.UW)}
  ·exact h
theorem fP.Vy{m:Md}(h:fP m){s:Sm}(hs:oX s):fP (gW m s):=by
 unfold gW;split
 ·exact{h with c:=h.c.cU hs.ao}
 ·exact h
theorem fP.pipe{m:Md}(h:fP m){o:Bool}{s:Sm}:fP (jW m o s):={h with p:=h.p.pU h.w.v0}
theorem fP.K1{m:Md}(h:fP m){ao:Int}(hn:U ao):fP (eG m ao):={h with c:=Af.st hn,mode:=by simp[eG]}
theorem fP.m1{m:Md}(h:fP m):fP (qJ m):=by
 unfold qJ;split
 ·exact{h with mode:=by simp}
 ·exact h
theorem fP.m2{m:Md}(h:fP m){s:Sm}(hs:oX s):fP (sC m s):=by
 unfold sC;split
 ·exact h.K1 hs.ao
 ·exact h
theorem fP.back{m:Md}(h:fP m):fP (fS m):={h with cv:=Aj h.gq h.cv,gq:=aX 0}
theorem fP.T7{m:Md}(h:fP m){r:Bool×Bool}{ao:Int}(hn:U ao):fP (gY m r ao):=by
 unfold gY;split
 ·exact{h with gq:=Aj h.cv h.gq,mode:=by simp}
 ·split
  ·have hb:fP {fS m with mode:=0}:={h.back with mode:=by simp};split
   ·exact hb.K1 hn
   ·exact hb
  ·exact h
theorem fP.look{m:Md}(h:fP m){s:Sm}(hs:oX s){o:Bool}:fP (lM m s o):=by
 have:fP {m with b:=(Ab m s o).2}:={h with b:=h.b.bU hs.ao hs.bG};exact this.T7 hs.ao
theorem W7{m:Md}(h:fP m):U (Jc m):=Aj (aX 1) (J7 h.bw (E8 m))
theorem fP.PP{m:Md}(h:fP m):fP (dD m):=by
 unfold dD;split
 ·exact h
 ·split
  ·exact{h with aQ:=W7 h}
  ·exact h
theorem fP.recover{m:Md}(h:fP m){s:Sm}(hs:oX s){o:Bool}:fP (bq m s o):=by
 unfold bq;split
 ·exact{h with jN:=ol hs.del hs.UK,gq:=Aj h.cv h.gq}
 ·split
  ·split
   ·exact{h with}
   ·unfold jV;have h2:fP {m with lJ:=false,first:=false}:={h with};split
    ·exact h2.back
    ·exact h2
  ·exact h
theorem fP.w1{m:Md}(h:fP m){s:Sm}(hs:oX s):fP (xt m s):={h with cv:=Aj h.PB (mS h.cv hs.be)}
theorem fP.tar{m:Md}(h:fP m){tso:Int}(ht:U tso):U (nN m tso):=Vc h.bw h.b.dg (E_ m) ht h.PB
theorem fP.w2{m:Md}(h:fP m){s:Sm}(hs:oX s){tso:Int}(ht:U tso):fP (tj m s tso):=by
 unfold tj;split
 ·exact{h with cv:=Aj (ol hs.UK hs.Dh) h.cv}
 ·split
  ·split
   ·exact{h with cv:=Aj (h.tar ht) (ol h.cv hs.Dh)}
   ·split
    ·exact{h with cv:=ol h.cv hs.Dh}
    ·exact h
  ·exact h
theorem fP.w3{m:Md}(h:fP m):fP (C3 m):={h with cv:=Aj h.floor h.cv}
theorem fP.w4{m:Md}(h:fP m):fP (Jd m):=by
 unfold Jd;split
 ·exact{h with cv:=h.floor}
 ·exact h
theorem fP.ke{m:Md}(h:fP m){s:Sm}(hs:oX s){tso:Int}(ht:U tso):fP (ej m s tso):=((h.w1 hs).w2 hs ht).w3.w4
theorem fP.u1{m:Md}(h:fP m){s:Sm}(hs:oX s):fP (C2 m s):={h with r:=h.r.rU hs,q:=h.q.dj hs}
theorem fP.dj{m:Md}(h:fP m){s:Sm}(hs:oX s){tso:Int}(ht:U tso):fP (oP m s tso):=
 (((((((h.u1 hs).PA hs).Vy hs).pipe.m1.m2 hs).look hs).PP.recover hs).ke hs ht)
def mJ(n:Int):Int:=if 9000<(if 100>n then 100 else n)then 9000 else(if 100>n then 100 else n)
abbrev lZ(n:Int):Md:={w:=⟨10,0,0,0,0,0,0,0⟩,r:=⟨0,0⟩,p:=⟨0,0,false⟩,c:=⟨0,0⟩,b:=⟨0,0,false,0,false⟩,q:=⟨false,false,0,0,0,0,0,0⟩,bn:=mJ n,mode:=0,aQ:=zB (10*mJ n*1000) 739,cv:=10*mJ n,gq:=0,lJ:=false,first:=false,jN:=0}
theorem HO(n:Int):100≤mJ n∧mJ n≤9000:=by unfold mJ;split<;>split<;>omega
theorem fP.new(n:Int):fP (lZ n):=by
 have:=HO n;exact{w:=⟨aX 10,aX 0,aX 0,aX 0,aX 0,aX 0,aX 0,aX 0⟩,r:=⟨aX 0,aX 0⟩,p:=⟨aX 0,(by simp[lZ]),λ_=>by simp[lZ]⟩,c:=⟨(by simp[lZ]),aX 0⟩,b:=⟨aX 0,aX 0,aX 0⟩,q:=⟨aX 0,(by simp[lZ]),aX 0,aX 0,aX 0,aX 0,(λh=>by simp[lZ]at h),λ_ h=>by simp[lZ]at h⟩,bn:=this,mode:=(by simp[lZ]),aQ:=J7 ⟨by omega,by omega⟩ (aX 739),cv:=⟨(by show 0≤10*mJ n;omega),by show 10*mJ n<_;omega⟩,gq:=aX 0,jN:=aX 0}
end eH

namespace NS
open bB fZ eH
structure og(a b:Md):Prop where
 bn:b.bn=a.bn
 aQ:b.aQ=a.aQ
theorem og.trans{a b c:Md}(h:og a b)(g:og b c):og a c:=⟨g.bn.trans h.bn,g.aQ.trans h.aQ⟩
theorem FN(m:Md)(s:Sm):og m (eP m s):=by
 unfold eP;repeat' split
 all_goals exact⟨rfl,rfl⟩
theorem VJ(m:Md)(s:Sm):og m (gW m s):=by unfold gW;split<;>exact⟨rfl,rfl⟩
theorem X6(m:Md):og m (qJ m):=by unfold qJ;split<;>exact⟨rfl,rfl⟩
theorem X7(m:Md)(s:Sm):og m (sC m s):=by unfold sC;split<;>exact⟨rfl,rfl⟩
theorem LH(m:Md)(r:Bool×Bool)(ao:Int):og m (gY m r ao):=by
 unfold gY;repeat' split
 all_goals exact⟨rfl,rfl⟩
theorem TU(m:Md)(s:Sm)(o:Bool):og m (lM m s o):=(⟨rfl,rfl⟩:og m {m with b:=(Ab m s o).2}).trans (LH _ _ _)
theorem LI(m:Md)(s:Sm)(o:Bool):og m (bq m s o):=by
 unfold bq jV;repeat' split
 all_goals exact⟨rfl,rfl⟩
theorem X8(m:Md)(o:Bool)(s:Sm):og m (Py m o s):=by
 have a:og (gW (eP m s) s) (jW (gW (eP m s) s) o s):=⟨rfl,rfl⟩;exact((FN m s).trans (VJ _ s)).trans (a.trans (((X6 _).trans (X7 _ s)).trans (TU _ s o)))
theorem Ml(m:Md):(dD m).bn=m.bn:=by
 unfold dD;repeat' split
 all_goals rfl
end NS

namespace Q9
open bB fZ eH NS
structure Inv(m:Md):Prop where
 on:m.b.on=true↔m.mode=3
 full:m.mode=1∨m.mode=2→m.p.full=true
structure Tr(a b:Md):Prop where
 t0:a.mode≠0→a.mode≠3→b.mode≠0
 t2:a.mode=2→b.mode≠1
 t3:a.mode=3→b.mode≠1
 tf:a.p.full=true→b.p.full=true
 inv:Inv b
 n:b.r.n=a.r.n∨b.r.n=IntKind.u64.wrap (a.r.n+1)
end Q9

namespace C5
open bB fZ eH NS Q9
structure Bd(m:Md)(t:Int):Prop where
 cv:m.cv≤t
 gq:m.gq≤t
theorem A1{p:Prop}[Decidable p]{a b t:Int}(ha:a≤t)(hb:b≤t):(if p then a else b)≤t:=by split<;>assumption
theorem Ro{m:Md}{t:Int}(h:Bd m t)(s:Sm):Bd (eP m s) t:=by unfold eP;(repeat' split)<;>exact⟨h.cv,h.gq⟩
theorem Vg{m:Md}{t:Int}(h:Bd m t)(s:Sm):Bd (gW m s) t:=by unfold gW;split<;>exact⟨h.cv,h.gq⟩
theorem Xa{m:Md}{t:Int}(h:Bd m t):Bd (qJ m) t:=by unfold qJ;split<;>exact⟨h.cv,h.gq⟩
theorem Xb{m:Md}{t:Int}(h:Bd m t)(s:Sm):Bd (sC m s) t:=by unfold sC;split<;>exact⟨h.cv,h.gq⟩
theorem Kc{m:Md}{t:Int}(h:Bd m t)(h0:0≤t)(r:Bool×Bool)(ao:Int):Bd (gY m r ao) t:=by
 unfold gY;split
 ·exact⟨h.cv,A1 h.cv h.gq⟩
 ·split
  ·split
   ·exact⟨A1 h.gq h.cv,h0⟩
   ·exact⟨A1 h.gq h.cv,h0⟩
  ·exact h
theorem Rn{m:Md}{t:Int}(h:Bd m t)(h0:0≤t)(s:Sm)(o:Bool):Bd (lM m s o) t:=by
 have:Bd {m with b:=(Ab m s o).2} t:=⟨h.cv,h.gq⟩;exact Kc this h0 _ _
theorem Rp{m:Md}{t:Int}(h:Bd m t):Bd (dD m) t:=by unfold dD;(repeat' split)<;>exact⟨h.cv,h.gq⟩
theorem Vh{m:Md}{t:Int}(h:Bd m t)(h0:0≤t)(s:Sm)(o:Bool):Bd (bq m s o) t:=by
 unfold bq jV;split
 ·exact⟨h.cv,A1 h.cv h.gq⟩
 ·split
  ·split
   ·exact⟨h.cv,h.gq⟩
   ·split
    ·exact⟨A1 h.gq h.cv,h0⟩
    ·exact⟨h.cv,h.gq⟩
  ·exact h
theorem Rh{a b t:Int}(h:a≤t):bA a b≤bA t b:=by unfold bA;(repeat' split)<;>omega
theorem TY{t b:Int}(h:U t)(hb:U b):t≤bA t b:=by unfold U bA at*;split<;>omega
theorem sub_le{a b:Int}(h:U a)(hb:U b):dF a b≤a:=by unfold U dF at*;split<;>omega
def NO(x t:Int)(s:Sm):Prop:=x≤bA t (fj s)∨x≤bA (kd s) (fj s)
theorem Ma{p:Prop}[Decidable p]{a b t:Int}{s:Sm}(ha:NO a t s)(hb:NO b t s):NO (if p then a else b) t s:=by split<;>assumption
theorem Wc{m:Md}{t:Int}(h:Bd m t)(hm:fP m)(ht:U t)(h4:4*m.bn≤t){s:Sm}(hs:oX s)(tso:Int):NO (ej m s tso).cv t s∧(ej m s tso).gq≤t:=by
 have hmss:=hm.bn;have hv:Bd (xt m s) t:=⟨A1 (by omega) (wo (sub_le hm.cv hs.be) h.cv),h.gq⟩;have hvm:(xt m s).bn=m.bn:=rfl;unfold ej;generalize xt m s=v at*
 have tl:t≤bA t (fj s):=TY ht hs.Dh;have vl:NO v.cv t s:=.inl (wo hv.cv tl);have al:NO (bA v.cv (fj s)) t s:=.inl (Rh hv.cv);have hx:NO (tj v s tso).cv t s∧(tj v s tso).gq≤t∧(tj v s tso).bn=v.bn:=by
  unfold tj;split
  ·exact⟨Ma (.inr (ku _)) vl,hv.gq,rfl⟩
  ·split
   ·split
    ·refine⟨?_,hv.gq,rfl⟩;show NO (if nN v tso<bA v.cv (fj s)then nN v tso else bA v.cv (fj s)) t s;split
     ·rename_i hlt;rcases al with a|a
      ·exact .inl (by omega)
      ·exact .inr (by omega)
     ·exact al
    ·split
     ·exact⟨al,hv.gq,rfl⟩
     ·exact⟨vl,hv.gq,rfl⟩
   ·exact⟨vl,hv.gq,rfl⟩
 generalize tj v s tso=x at*
 obtain⟨x1,x2,x3⟩:=hx;have fl:NO (4*x.bn) t s:=.inl (by rw[x3,hvm];omega);unfold Jd;split
 ·exact⟨fl,x2⟩
 ·exact⟨Ma fl x1,x2⟩
theorem V8{m:Md}{t:Int}(h:Bd m t)(hm:fP m)(ht:U t)(h4:4*m.bn≤t){s:Sm}(hs:oX s)(tso:Int):NO (oP m s tso).cv t s∧(oP m s tso).gq≤t:=by
 have b1:Bd (C2 m s) t:=⟨h.cv,h.gq⟩;have b2:=Vg (Ro b1 s) s;have b3:Bd (jW (gW (eP (C2 m s) s) s) (rB m.r s) s) t:=⟨b2.cv,b2.gq⟩;have b4:=Vh (Rp (Rn (Xb (Xa b3) s) ht.1 s (rB m.r s))) ht.1 s (rB m.r s);have o4:fP (bq (dD (Py (C2 m s) (rB m.r s) s)) s (rB m.r s)):=(((((((hm.u1 hs).PA hs).Vy hs).pipe.m1.m2 hs).look hs).PP.recover hs));have e:(bq (dD (Py (C2 m s) (rB m.r s) s)) s (rB m.r s)).bn=m.bn:=by rw[(LI _ s _).bn,Ml,(X8 _ _ s).bn]
 exact Wc (m:=bq (dD (Py (C2 m s) (rB m.r s) s)) s (rB m.r s)) b4 o4 ht (by rw[e];exact h4) hs tso
end C5

namespace ad
open fZ eH
abbrev fY(v:Wn):List Lf:=[.int .u64 v.w,.int .u64 v.t0,.int .u64 v.v0,.int .u64 v.t1,.int .u64 v.v1,.int .u64 v.t2,.int .u64 v.v2,.int .u64 v.la]
abbrev jo(v:NP):List Lf:=[.int .u64 v.n,.int .u64 v.nx]
abbrev jh(v:Pp):List Lf:=[.int .u64 v.dg,.int .i64 v.n,.bool v.full]
abbrev iz(v:Cy):List Lf:=[.int .i64 v.ph,.int .u64 v.kE]
abbrev iT(v:Pb):List Lf:=[.int .u64 v.dg,.int .u64 v.kE,.bool v.on,.int .u64 v.jN,.bool v.rd]
abbrev fX(v:Pl):List Lf:=[.bool v.iO,.bool v.uq,.int .u64 v.bw,.int .i64 v.n,.int .u64 v.be,.int .u64 v.t0,.int .u64 v.d0,.int .u64 v.l0]
abbrev gO(n1 n2 n3 n4 n5 n6:Nat)(v:Md):List Lf:=[.ptr (some ⟨n1,0⟩),.ptr (some ⟨n2,0⟩),.ptr (some ⟨n3,0⟩),.ptr (some ⟨n4,0⟩),.ptr (some ⟨n5,0⟩),.ptr (some ⟨n6,0⟩),.int .u64 v.bn,.int .i64 v.mode,.int .u64 v.aQ,.int .u64 v.cv,.int .u64 v.gq,.bool v.lJ,.bool v.first,.int .u64 v.jN]
abbrev dH(v:Wn):List Lf:=[.int .u64 v.w,.int .u64 v.t0,.int .u64 v.t1,.int .u64 v.t2,.int .u64 v.v0,.int .u64 v.v1,.int .u64 v.v2,.int .u64 v.la,.bool false]
end ad
namespace xk
open fZ eH
structure Rm where
 m:Md
 set:Bool
 oR:Int
 g:Int
end xk
namespace ad
open fZ eH
abbrev cN(nw:Nat)(v:xk.Rm):List Lf:=[.int .u64 v.m.bn,.ptr (some ⟨nw,0⟩),.int .u64 v.m.r.n,.int .u64 v.m.r.nx,.int .u64 v.m.p.dg,.int .i64 v.m.p.n,.bool v.m.p.full,.int .i64 v.m.c.ph,.int .u64 v.m.c.kE,.int .u64 v.m.b.dg,.int .u64 v.m.b.kE,.bool v.m.b.on,.bool v.set,.bool v.m.b.rd,.int .u64 v.oR,.bool v.m.q.iO,.bool v.m.q.uq,.int .u64 v.m.q.bw,.int .i64 v.m.q.n,.int .u64 v.m.q.be,.int .u64 v.m.q.t0,.int .u64 v.m.q.d0,.int .u64 v.m.q.l0,.int .i64 v.m.mode,.int .u64 v.m.aQ,.int .u64 v.m.cv,.int .u64 v.g,.bool v.m.lJ,.bool v.m.first,.int .u64 v.m.jN,.int .u64 v.m.gq]
end ad

end Go.X
