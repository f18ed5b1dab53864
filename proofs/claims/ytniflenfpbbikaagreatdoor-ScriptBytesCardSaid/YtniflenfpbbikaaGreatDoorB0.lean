/- Contracts. -/
import Derived.Lib.ItoaNum
import Derived.Test.YtniflenfpbbikaaGreatDoorK
set_option linter.all false
set_option autoImplicit true
set_option relaxedAutoImplicit true
namespace Go.X
open IntKind (u64 i64)
abbrev KI:Ks:=[.int .i64]
abbrev KU:Ks:=[.int .u64]
abbrev KR:Ks:=[.int .u64,.int .u64]
abbrev KB:Ks:=[.bool]
theorem qG{α:Type}{l:List α}{i:Nat}{x:α}(h:l[i]?=some x):l.drop i=x::l.drop (i+1):=by
 obtain⟨hl,he⟩:=ie.1 h;rw[←he];exact NW hl
theorem qj:∀(n:Nat) (l:List Int),l.Nodup→(∀x∈l,0≤x∧x<(n:Int))→l.length≤n
 |0,l,_,h=>by
  cases l with
  |nil=>simp
  |cons x l=>have:=h x (by simp);omega
 |n+1,l,hd,h=>by
  have h1:=qj n (l.filter (λx=>!decide (x=(n:Int)))) (hd.filter _) (λx hx=>by
   rw[tS]at hx;have:=h x hx.1;have h2:¬x=(n:Int):=by simpa using hx.2
   omega)
  have h3:l.length≤(l.filter (λx=>!decide (x=(n:Int)))).length+1:=by
   clear h1 h
   induction l with
   |nil=>simp
   |cons x l ih=>
    rw[lD]at hd;by_cases hx:x=(n:Int)
    ·have:l.filter (λx=>!decide (x=(n:Int)))=l:=by
      rw[Ao];intro y hy;have:y≠x:=λe=>hd.1 (e▸hy);simp;omega
     rw[Ag,aw (by simp[hx]),this];simp
    ·rw[Ag,aF (by simp[hx])];have:=ih hd.2;simp only[fq];omega
  omega
section
variable {w0 w:World} {S0 R0:Nat→Prop} {F G:SP}
theorem aB{p:Pt}{ls:List Lf}{A:WP}{L:List Lf}(h:au w0 S0 R0 w F)(b:Nat)(L':List Lf)[t:mU b F L G](hp:p.b=b)(hx:Nat.ble (p.o+ls.length) L.length=true)(e:dE L p.o ls=L')
  (k:∀w',au w0 S0 R0 w' (X.ah b L'^G)→A w'):st p ls A w:=by
 subst hp;subst e;exact be h hx k
end
theorem least{α:Type}(P:α→Prop)(μ:α→Nat)(h:∃a,P a):∃n,(∃a,P a∧μ a=n)∧∀a,P a→n≤μ a:=by
 obtain⟨a,ha⟩:=h;have key:∀k a,P a→μ a≤k→∃n,(∃a,P a∧μ a=n)∧∀a,P a→n≤μ a:=by
  intro k
  induction k with
  |zero=>intro a ha hk;exact⟨0,⟨a,ha,by omega⟩,λ_ _=>iW _⟩
  |succ k ih=>
   intro a ha hk;by_cases hc:∃c,P c∧μ c<μ a
   ·obtain⟨c,hc,hlt⟩:=hc;exact ih c hc (by omega)
   ·exact⟨μ a,⟨a,ha,rfl⟩,λc hc'=>Nat.le_of_not_lt λhlt=>hc ⟨c,hc',hlt⟩⟩
 exact key _ a ha (eM _)
open Classical in
theorem fV{w0 w:World}{S0 R0:Nat→Prop}{α:Type}{cs:List CK}{x₀:Ks.T cs}{B:(Ks.T cs→WP)→Ks.T cs→WP}(I:Ks.T cs→α→SP)(φ:Ks.T cs→α→Prop)(μ:Ks.T cs→α→Nat)(a₀:α)(h:au w0 S0 R0 w (I x₀ a₀))(h0:φ x₀ a₀)
  (hr:∀(K:Ks.T cs→WP) x a w,φ x a→au w0 S0 R0 w (I x a)→(∀y c w',φ y c→au w0 S0 R0 w' (I y c)→μ y c<μ x a→K y w')→B K x w):loop cs x₀ B w:=by
 refine⟨λx w=>∃a,φ x a∧au w0 S0 R0 w (I x a),λx w=>if h:∃a,φ x a∧au w0 S0 R0 w (I x a)then Classical.choose (least _ (μ x) h)else 0,⟨a₀,h0,h⟩,?_⟩;intro x w hx;have hs:=N8 (least _ (μ x) hx);obtain⟨⟨a,⟨hp,ha⟩,hn⟩,_⟩:=hs;refine hr _ x a w hp ha λy c w' hy ho hlt=>⟨⟨c,hy,ho⟩,?_⟩;have hx':∃c,φ y c∧au w0 S0 R0 w' (I y c):=⟨c,hy,ho⟩;have e1:(if h:∃a,φ y a∧au w0 S0 R0 w' (I y a)then Classical.choose (least _ (μ y) h)else 0)=Classical.choose (least _ (μ y) hx'):=dif_pos hx';have e2:(if h:∃a,φ x a∧au w0 S0 R0 w (I x a)then Classical.choose (least _ (μ x) h)else 0)=Classical.choose (least _ (μ x) hx):=dif_pos hx;show(if h:∃a,φ y a∧au w0 S0 R0 w' (I y a)then Classical.choose (least _ (μ y) h)else 0)<(if h:∃a,φ x a∧au w0 S0 R0 w (I x a)then Classical.choose (least _ (μ x) h)else 0);rw[e1,e2,←hn];have:=(N8 (least _ (μ y) hx')).2 c ⟨hy,ho⟩;omega

namespace bK
abbrev M:Int:=18446744073709551616
def U(x:Int):Prop:=0≤x∧x<18446744073709551616
def bH(a b:Int):Int:=if a+b<18446744073709551616 then a+b else 18446744073709551615
def dV(a b:Int):Int:=if a<b then 0 else a-b
def rv(a b:Int):Int:=if a*b<18446744073709551616 then a*b else 18446744073709551615
def qI(a b c:Int):Int:=if a*b=0 then 0 else if a*b<c*18446744073709551616 then a*b/c else 18446744073709551615
theorem wm(n:Int):u64.wrap n=n%18446744073709551616:=by simp[IntKind.wrap,IntKind.bits,IntKind.signed]
theorem ub(n:Int):U (u64.wrap n):=Po n
theorem oT{a b:Int}(ha:U a)(hb:U b):U (bH a b):=by unfold U bH at*;split<;>omega
theorem nA{a b:Int}(ha:U a)(hb:U b):U (dV a b):=by unfold U dV at*;split<;>omega
theorem Ej{a b:Int}(ha:U a)(hb:U b):U (rv a b):=by
 have:=uI ha.1 hb.1;unfold rv;split
 ·exact⟨this,by assumption⟩
 ·unfold U;omega
theorem yR{a b c:Int}(ha:U a)(hb:U b)(hc:U c):U (qI a b c):=by
 have h:=uI ha.1 hb.1;unfold qI;split
 ·unfold U;omega
 ·split
  ·rename_i h1;refine⟨Dr h hc.1,?_⟩;have hc0:0<c:=by rcases Int.lt_or_eq_of_le hc.1 with h2|h2;exact h2;rw[←h2]at h1;omega
   exact N9 hc0 (by rw[xz 18446744073709551616];exact h1)
  ·unfold U;omega
theorem XH{a:Int}(h:U a):(BitVec.ofInt 64 a).toNat=a.toNat:=by
 unfold U at h;rw[BitVec.toNat_ofInt];simp;omega
theorem XA(a:Int):((BitVec.ofInt u64.bits a&&&BitVec.ofInt u64.bits 4294967295).toNat:Int)=a%4294967296:=by
 show((BitVec.ofInt 64 a&&&BitVec.ofInt 64 4294967295).toNat:Int)=_;rw[Hh,show(BitVec.ofInt 64 4294967295).toNat=2^32-1 by decide,NP,BitVec.toNat_ofInt];simp;omega
theorem or1{a b:Int}(i:Nat)(k:Int)(hk:0≤k)(ha:a=k*(2^i:Nat))(h1:U a)(hb:0≤b)(hb2:b<(2^i:Nat))(h2:U b):((BitVec.ofInt u64.bits a|||BitVec.ofInt u64.bits b).toNat:Int)=a+b:=by
 show((BitVec.ofInt 64 a|||BitVec.ofInt 64 b).toNat:Int)=_;rw[BitVec.toNat_or,XH h1,XH h2];obtain⟨k,rfl⟩:=N1 hk;obtain⟨b,rfl⟩:=N1 hb;have e:a=((2^i*k:Nat):Int):=by rw[ha,Al];push_cast;rfl
 rw[e,eW,eW,←Nat.two_pow_add_eq_or_of_lt (by omega)]
 push_cast;rfl
theorem ME(a:Int):a.fdiv (2^min (32:Int).toNat u64.bits)=a/4294967296:=by
 show a.fdiv 4294967296=_;exact NT a (by decide)
theorem GB(a:Int):a.fdiv (2^min (63:Int).toNat u64.bits)=a/9223372036854775808:=by
 show a.fdiv 9223372036854775808=_;exact NT a (by decide)
theorem Nx{r l:Int}(hl:U l):u64.wrap (((BitVec.ofInt u64.bits (u64.wrap (r*2^min (1:Int).toNat u64.bits))|||BitVec.ofInt u64.bits (l.fdiv (2^min (63:Int).toNat u64.bits))).toNat:Nat):Int)=(2*r)%18446744073709551616+l/9223372036854775808:=by
 rw[GB];have e:u64.wrap (r*2^min (1:Int).toNat u64.bits)=(2*r)%18446744073709551616:=by
  show u64.wrap (r*2)=_;rw[wm,xz]
 rw[e];unfold U at hl;rw[or1 1 ((2*r)%18446744073709551616/2) (by omega) (by show _=_*(2:Int);omega) (by unfold U;omega) (by omega) (by show _<(2:Int);omega) (by unfold U;omega),wm];omega
theorem Ny(q:Int):u64.wrap (((BitVec.ofInt u64.bits (u64.wrap (q*2^min (1:Int).toNat u64.bits))|||BitVec.ofInt u64.bits (1:Int)).toNat:Nat):Int)=(2*q)%18446744073709551616+1:=by
 have e:u64.wrap (q*2^min (1:Int).toNat u64.bits)=(2*q)%18446744073709551616:=by
  show u64.wrap (q*2)=_;rw[wm,xz]
 rw[e,or1 1 ((2*q)%18446744073709551616/2) (by omega) (by show _=_*(2:Int);omega) (by unfold U;omega) (by omega) (by show _<(2:Int);omega) (by unfold U;omega),wm];omega
theorem RU(q:Int):u64.wrap (q*2^min (1:Int).toNat u64.bits)=(2*q)%18446744073709551616:=by
 show u64.wrap (q*2)=_;rw[wm,xz]
structure Dv(N c q r l:Int)(i:Nat):Prop where
 step:(q*c+r)*2^(64-i)+l/2^i=N
 r0:0≤r
 rc:r<c
 q0:0≤q
 ql:q<2^i
 ul:U l
 ld:l%2^i=0
 il:i≤64
theorem Dv.start{h l c:Int}(hl:U l)(hh:0≤h)(hc:h<c):Dv (h*18446744073709551616+l) c 0 h l 0:=by
 refine⟨?_,hh,hc,by omega,by omega,hl,by omega,by omega⟩;simp
theorem Dv.last{N c q r l:Int}(d:Dv N c q r l 64)(hc:0<c):q=N/c:=by
 have h:=d.step;have hl:=d.ul;unfold U at hl;have:l/2^64=0:=N4 hl.1 hl.2;simp at h;rw[show(18446744073709551616:Int)=2^64 by decide,this]at h;have h:=h.symm;rw[h,Int.add_zero,Int.add_comm,Int.add_mul_ediv_right _ _ (by omega),N4 d.r0 d.rc];omega
theorem Dv.next{N c q r l:Int}(d:Dv N c q r l i)(hi:i<64):(2*r+l/9223372036854775808<c→Dv N c (2*q) (2*r+l/9223372036854775808) (2*l%18446744073709551616) (i+1))∧
  (c≤2*r+l/9223372036854775808→Dv N c (2*q+1) (2*r+l/9223372036854775808-c) (2*l%18446744073709551616) (i+1)):=by
 obtain⟨h1,h2,h3,h4,h5,h6,h7,h8⟩:=d;unfold U at h6;obtain⟨m,hm⟩:∃m:Int,l=m*2^i:=⟨l/2^i,(Int.ediv_mul_cancel (Int.dvd_of_emod_eq_zero h7)).symm⟩;have p:(0:Int)<2^i:=Int.pow_pos (by decide);have e1:l/2^i=m:=by rw[hm];exact Int.mul_ediv_cancel _ (by omega)
 obtain⟨b,hb⟩:∃b,l/9223372036854775808=b:=⟨_,rfl⟩;have hb01:b=0∨b=1:=by omega
 have e2:2*l%18446744073709551616=2*l-b*18446744073709551616:=by omega
 have hp:(2:Int)^(64-i)=2*2^(64-(i+1)):=by rw[show 64-i=(64-(i+1))+1 by omega,Int.pow_succ];omega
 have hpp:(2:Int)^(64-(i+1))*2^(i+1)=18446744073709551616:=by rw[←Int.pow_add,show 64-(i+1)+(i+1)=64 by omega];decide
 have hp1:(2:Int)^(i+1)=2*2^i:=by rw[Int.pow_succ];omega
 obtain⟨P,hP⟩:∃P:Int,(2:Int)^(64-(i+1))=P:=⟨_,rfl⟩;obtain⟨Q,hQ⟩:∃Q:Int,(2:Int)^i=Q:=⟨_,rfl⟩;rw[hp1,hQ,hP]at hpp;rw[hQ]at hm p e1 h5 h1;rw[hP]at hp;have e3:2*l-b*18446744073709551616=(m-b*P)*(2*Q):=by
  rw[←hpp,hm,Int.sub_mul];have:2*(m*Q)=m*(2*Q):=by rw[Int.mul_left_comm]
  rw[this,vY]
 have e4:(2*l%18446744073709551616)/2^(i+1)=m-b*P:=by rw[e2,e3,hp1,hQ];exact Int.mul_ediv_cancel _ (by omega)
 have e5:(2*l%18446744073709551616)%2^(i+1)=0:=by rw[e2,e3,hp1,hQ];exact Int.mul_emod_left _ _
 have hU:U (2*l%18446744073709551616):=by unfold U;omega
 rw[hb];rw[hp,e1]at h1;have key:(2*(q*c+r)+b)*P+(m-b*P)=N:=by
  rw[←h1,Int.add_mul];have:2*(q*c+r)*P=(q*c+r)*(2*P):=by rw[xz 2,vY]
  omega
 refine⟨λh=>⟨?_,by omega,h,by omega,by rw[hp1,hQ];omega,hU,e5,by omega⟩,λh=>⟨?_,by omega,by omega,by omega,by rw[hp1,hQ];omega,hU,e5,by omega⟩⟩
 ·rw[e4,hP,←key];have:2*q*c+(2*r+b)=2*(q*c+r)+b:=by rw[vY];omega
  rw[this]
 ·rw[e4,hP,←key];have:(2*q+1)*c+(2*r+b-c)=2*(q*c+r)+b:=by rw[Int.add_mul,vY];omega
  rw[this]
def As(bw g:Int):Int:=qI bw g 256
def Cz(bw bX g:Int):Int:=qI (qI bw bX 1000000000) g 256
def Br(bw bX g tso bs:Int):Int:=if bX=0 then rv 10 bs else if rv 4 bs>bH (Cz bw bX g) (rv 3 tso)then rv 4 bs else bH (Cz bw bX g) (rv 3 tso)
theorem bh(x:Int)(h:0≤x∧x<18446744073709551616:=by omega):U x:=h
theorem Lz{bw g:Int}(hb:U bw)(hg:U g):U (As bw g):=yR hb hg (bh 256)
theorem Ly{bw bX g:Int}(hb:U bw)(hq:U bX)(hg:U g):U (Cz bw bX g):=yR (yR hb hq (bh _)) hg (bh 256)
theorem Xy{bw bX g tso bs:Int}(hb:U bw)(hq:U bX)(hg:U g)(ht:U tso)(hm:U bs):U (Br bw bX g tso bs):=by
 unfold Br;split
 ·exact Ej (bh _) hm
 ·split
  ·exact Ej (bh _) hm
  ·exact oT (Ly hb hq hg) (Ej (bh _) ht)
end bK

namespace Tree
abbrev Nd:=Int×Int×Int×Int×Int
abbrev Key:=Int×Int
def lF(a b:Key):Bool:=decide (a.1<b.1)||(decide (a.1=b.1)&&decide (a.2<b.2))
theorem o_{a b:Key}:lF a b=true↔a.1<b.1∨(a.1=b.1∧a.2<b.2):=by simp[lF]
theorem sZ(a:Key):lF a a=false:=by
 cases h:lF a a with
 |false=>rfl
 |true=>rw[o_]at h;omega
theorem xh{a b c:Key}(h:lF a b=true)(k:lF b c=true):lF a c=true:=by rw[o_]at*;omega
theorem EV{a b:Key}(h:lF a b=true):lF b a=false:=by
 cases h2:lF b a with
 |false=>rfl
 |true=>rw[o_]at*;omega
theorem IB{a b:Key}(h:a.1=b.1)(k:a.2=b.2):a=b:=by cases a;cases b;simp at h k;simp[h,k]
theorem IE{a b:Key}(h:lF a b=false)(hne:a≠b):lF b a=true:=by
 rw[o_];have h2:¬(a.1<b.1∨(a.1=b.1∧a.2<b.2)):=by rw[←o_,h];simp
 by_cases h1:a.1=b.1
 ·by_cases h3:a.2=b.2
  ·exact absurd (IB h1 h3) hne
  ·omega
 ·omega
inductive Tr where
 |e
 |n (l:Tr) (i:Nat) (k:Key) (r:Tr)
namespace Tr
def rt:Tr→Int
 |e=>-1
 |n _ i _ _=>i
def ht:Tr→Int
 |e=>0
 |n l _ _ r=>max l.ht r.ht+1
def cJ:Tr→List Nat
 |e=>[]
 |n l i _ r=>l.cJ++i::r.cJ
def ino:Tr→List Key
 |e=>[]
 |n l _ k r=>l.ino++k::r.ino
def pN:Tr→Prop
 |e=>True
 |n l _ _ r=>l.pN∧r.pN∧l.ht≤r.ht+1∧r.ht≤l.ht+1
theorem xY:∀t:Tr,0≤t.ht
 |e=>by simp[ht]
 |n l _ _ r=>by have:=xY l;simp only[ht];omega
theorem CQ{t:Tr}(h:0<t.ht):∃l i k r,t=n l i k r:=by
 cases t with
 |e=>simp[ht]at h
 |n l i k r=>exact⟨_,_,_,_,rfl⟩
theorem OE{t:Tr}{i:Nat}(h:t.rt=(i:Int)):i∈t.cJ:=by
 cases t with
 |e=>simp only[rt]at h;omega
 |n l j k r=>
  have h:(j:Int)=i:=h;have h:j=i:=by omega
  simp[cJ,h]
theorem CY:∀t:Tr,t.cJ.length=t.ino.length
 |e=>rfl
 |n l i k r=>by simp[cJ,ino,CY l,CY r]
end Tr
open Tr
def iN(l:List Nd):Tr→Prop
 |e=>True
 |n L i k R=>l[i]?=some (k.1,k.2,L.rt,R.rt,max L.ht R.ht+1)∧iN l L∧iN l R
theorem iN.frame{l l':List Nd}:∀{t:Tr},iN l t→(∀j∈t.cJ,l'[j]?=l[j]?)→iN l' t
 |e,_,_=>trivial
 |n L i k R,⟨h1,h2,h3⟩,hf=>⟨by rw[hf i (by simp[cJ])];exact h1,h2.frame λj hj=>hf j (by simp[cJ,hj]),h3.frame λj hj=>hf j (by simp[cJ,hj])⟩
theorem iN.lt{l:List Nd}:∀{t:Tr},iN l t→∀j∈t.cJ,j<l.length
 |e,_,_,hj=>by simp[cJ]at hj
 |n L i k R,⟨h1,h2,h3⟩,j,hj=>by
  simp only[cJ,dX,dY]at hj;rcases hj with hj|rfl|hj
  ·exact h2.lt j hj
  ·exact(ie.1 h1).1
  ·exact h3.lt j hj
def nth(l:List Nd)(i:Int):Nd:=l.getD i.toNat (0,0,0,0,0)
abbrev lt(l:List Nd)(i:Int):Int:=(nth l i).2.2.1
abbrev bX(l:List Nd)(i:Int):Int:=(nth l i).2.2.2.1
def A5(l:List Nd)(i:Int):Int:=if i=-1 then 0 else(nth l i).2.2.2.2
def bi(l:List Nd)(i:Int):List Nd:=l.set i.toNat ((nth l i).1,(nth l i).2.1,(nth l i).2.2.1,(nth l i).2.2.2.1,max (A5 l (lt l i)) (A5 l (bX l i))+1)
def cX(l:List Nd)(i v:Int):List Nd:=l.set i.toNat ((nth l i).1,(nth l i).2.1,v,(nth l i).2.2.2.1,(nth l i).2.2.2.2)
def cY(l:List Nd)(i v:Int):List Nd:=l.set i.toNat ((nth l i).1,(nth l i).2.1,(nth l i).2.2.1,v,(nth l i).2.2.2.2)
def dn(l:List Nd)(i:Int):List Nd×Int:=(bi (bi (cX (cY l i (lt l (bX l i))) (bX l i) i) i) (bX l i),bX l i)
def du(l:List Nd)(i:Int):List Nd×Int:=(bi (bi (cY (cX l i (bX l (lt l i))) (lt l i) i) i) (lt l i),lt l i)
def iT(l:List Nd)(i:Int):Int:=A5 l (lt l i)-A5 l (bX l i)
def fT(l:List Nd)(i:Int):List Nd×Int:=
 if iT (bi l i) i>1 then
  du (if iT (bi l i) (lt (bi l i) i)<0 then cX (dn (bi l i) (lt (bi l i) i)).1 i (dn (bi l i) (lt (bi l i) i)).2 else bi l i) i
 else if iT (bi l i) i< -1 then
  dn (if iT (bi l i) (bX (bi l i) i)>0 then cY (du (bi l i) (bX (bi l i) i)).1 i (du (bi l i) (bX (bi l i) i)).2 else bi l i) i
 else(bi l i,i)
theorem gD{l:List Nd}{i:Nat}{x:Nd}(h:l[i]?=some x):nth l (i:Int)=x:=by simp[nth,lB,h]
theorem rY{l:List Nd}{t:Tr}(h:iN l t):A5 l t.rt=t.ht:=by
 cases t with
 |e=>simp[A5,rt,ht]
 |n L i k R=>
  have e:(i:Int)≠-1:=by omega
  simp only[A5,rt,aw e,gD h.1,ht]
theorem HS{l:List Nd}{i:Nat}{x:Nd}(y:Nd)(h:l[i]?=some x):(l.set i y)[i]?=some y:=by rw[sB (ie.1 h).1]
theorem vK{l:List Nd}{i:Nat}{k:Key}{L R:Tr}{h0:Int}(h:l[i]?=some (k.1,k.2,L.rt,R.rt,h0))(hL:iN l L)(hR:iN l R):(bi l i)[i]?=some (k.1,k.2,L.rt,R.rt,max L.ht R.ht+1):=by
 have e1:lt l (i:Int)=L.rt:=by rw[lt,gD h]
 have e2:bX l (i:Int)=R.rt:=by rw[bX,gD h]
 simp only[bi,gD h,e1,e2,rY hL,rY hR,eW];exact HS _ h
theorem ia{l:List Nd}{i j:Nat}(h:j≠i):(bi l i)[j]?=l[j]?:=by
 simp only[bi,eW];exact ya (mD h)
theorem wk{l:List Nd}{i:Nat}{x:Nd}(v:Int)(h:l[i]?=some x):(cX l i v)[i]?=some (x.1,x.2.1,v,x.2.2.2.1,x.2.2.2.2):=by simp only[cX,gD h,eW];exact HS _ h
theorem ke{l:List Nd}{i j:Nat}{v:Int}(h:j≠i):(cX l i v)[j]?=l[j]?:=by simp only[cX,eW];exact ya (mD h)
theorem wl{l:List Nd}{i:Nat}{x:Nd}(v:Int)(h:l[i]?=some x):(cY l i v)[i]?=some (x.1,x.2.1,x.2.2.1,v,x.2.2.2.2):=by simp only[cY,gD h,eW];exact HS _ h
theorem kf{l:List Nd}{i j:Nat}{v:Int}(h:j≠i):(cY l i v)[j]?=l[j]?:=by simp only[cY,eW];exact ya (mD h)
theorem gz(l:List Nd)(i:Int):(bi l i).length=l.length:=by simp[bi]
theorem cT(l:List Nd)(i v:Int):(cX l i v).length=l.length:=by simp[cX]
theorem cV(l:List Nd)(i v:Int):(cY l i v).length=l.length:=by simp[cY]
theorem tq(l:List Nd)(i:Int):(dn l i).1.length=l.length:=by simp[dn,gz,cT,cV]
theorem tu(l:List Nd)(i:Int):(du l i).1.length=l.length:=by simp[du,gz,cT,cV]
theorem qc(l:List Nd)(i:Int):(fT l i).1.length=l.length:=by
 unfold fT;split
 ·rw[tu];split<;>simp[cT,tq,gz]
 ·split
  ·rw[tq];split<;>simp[cV,tu,gz]
  ·exact gz _ _
theorem xJ{l:List Nd}{A B C:Tr}{i j:Nat}{k m:Key}{h0 h1:Int}(hi:l[i]?=some (k.1,k.2,A.rt,(j:Int),h0))(hj:l[j]?=some (m.1,m.2,B.rt,C.rt,h1))(hA:iN l A)(hB:iN l B)(hC:iN l C)
  (hd:(A.cJ++i::(B.cJ++j::C.cJ)).Nodup):(dn l i).2=j∧iN (dn l i).1 (n (n A i k B) j m C)∧∀p,p≠i→p≠j→(dn l i).1[p]?=l[p]?:=by
 simp only[jZ,lD,dX,dY,qM]at hd;obtain⟨dA,⟨⟨iB,ij,iC⟩,dB,⟨jC,dC⟩,dBC⟩,dA'⟩:=hd;have er:bX l (i:Int)=j:=by rw[bX,gD hi]
 have e1:lt l (j:Int)=B.rt:=by rw[lt,gD hj]
 have a1:=wl B.rt hi;have a2:(cY l i B.rt)[j]?=_:=(kf (mD ij)).trans hj;have b2:=wk (i:Int) a2;have b1:(cX (cY l i B.rt) j i)[i]?=_:=(ke ij).trans a1;have fA:∀p∈A.cJ,p≠i∧p≠j:=λp hp=>⟨λe=>dA' p hp i (.inl rfl) e,λe=>dA' p hp j (.inr (.inr (.inl rfl))) e⟩;have fB:∀p∈B.cJ,p≠i∧p≠j:=λp hp=>⟨λe=>iB (e▸hp),λe=>dBC p hp j (.inl rfl) e⟩;have fC:∀p∈C.cJ,p≠i∧p≠j:=λp hp=>⟨λe=>iC (e▸hp),λe=>jC (e▸hp)⟩;have fr:∀p,p≠i→p≠j→(cX (cY l i B.rt) j i)[p]?=l[p]?:=λp h1 h2=>(ke h2).trans (kf h1);have gA:iN (cX (cY l i B.rt) j i) A:=hA.frame λp hp=>fr p (fA p hp).1 (fA p hp).2;have gB:iN (cX (cY l i B.rt) j i) B:=hB.frame λp hp=>fr p (fB p hp).1 (fB p hp).2;have gC:iN (cX (cY l i B.rt) j i) C:=hC.frame λp hp=>fr p (fC p hp).1 (fC p hp).2;have c1:=vK b1 gA gB;have kA:iN (bi (cX (cY l i B.rt) j i) i) A:=gA.frame λp hp=>ia (fA p hp).1;have kB:iN (bi (cX (cY l i B.rt) j i) i) B:=gB.frame λp hp=>ia (fB p hp).1;have kC:iN (bi (cX (cY l i B.rt) j i) i) C:=gC.frame λp hp=>ia (fC p hp).1;have kI:iN (bi (cX (cY l i B.rt) j i) i) (n A i k B):=⟨c1,kA,kB⟩;have c2:(bi (cX (cY l i B.rt) j i) i)[j]?=some (m.1,m.2,(n A i k B).rt,C.rt,h1):=(ia (mD ij)).trans b2;have d:=vK c2 kI kC;have et:dn l i=(bi (bi (cX (cY l i B.rt) j i) i) j,(j:Int)):=by simp only[dn,er,e1]
 rw[et];have fI:∀p∈(n A i k B).cJ,p≠j:=λp hp=>by
  simp only[cJ,dX,dY]at hp;rcases hp with hp|rfl|hp
  ·exact(fA p hp).2
  ·exact ij
  ·exact(fB p hp).2
 exact⟨rfl,⟨d,kI.frame λp hp=>ia (fI p hp),kC.frame λp hp=>ia (fC p hp).2⟩,λp h1 h2=>(ia h2).trans ((ia h1).trans (fr p h1 h2))⟩
theorem xL{l:List Nd}{A B C:Tr}{i j:Nat}{k m:Key}{h0 h1:Int}(hi:l[i]?=some (k.1,k.2,(j:Int),C.rt,h0))(hj:l[j]?=some (m.1,m.2,A.rt,B.rt,h1))(hA:iN l A)(hB:iN l B)(hC:iN l C)
  (hd:((A.cJ++j::B.cJ)++i::C.cJ).Nodup):(du l i).2=j∧iN (du l i).1 (n A j m (n B i k C))∧∀p,p≠i→p≠j→(du l i).1[p]?=l[p]?:=by
 simp only[jZ,lD,dX,dY]at hd;obtain⟨⟨dA,⟨jB,dB⟩,dAB⟩,⟨iC,dC⟩,dd⟩:=hd;have ij:i≠j:=λe=>dd j (.inr (.inl rfl)) i (.inl rfl) e.symm;have er:lt l (i:Int)=j:=by rw[lt,gD hi]
 have e1:bX l (j:Int)=B.rt:=by rw[bX,gD hj]
 have a1:=wk B.rt hi;have a2:(cX l i B.rt)[j]?=_:=(ke (mD ij)).trans hj;have b2:=wl (i:Int) a2;have b1:(cY (cX l i B.rt) j i)[i]?=_:=(kf ij).trans a1;have fA:∀p∈A.cJ,p≠i∧p≠j:=λp hp=>⟨λe=>dd p (.inl hp) i (.inl rfl) e,λe=>dAB p hp j (.inl rfl) e⟩;have fB:∀p∈B.cJ,p≠i∧p≠j:=λp hp=>⟨λe=>dd p (.inr (.inr hp)) i (.inl rfl) e,λe=>jB (e▸hp)⟩;have fC:∀p∈C.cJ,p≠i∧p≠j:=λp hp=>⟨λe=>iC (e▸hp),λe=>dd j (.inr (.inl rfl)) p (.inr hp) e.symm⟩;have fr:∀p,p≠i→p≠j→(cY (cX l i B.rt) j i)[p]?=l[p]?:=λp h1 h2=>(kf h2).trans (ke h1);have gA:iN (cY (cX l i B.rt) j i) A:=hA.frame λp hp=>fr p (fA p hp).1 (fA p hp).2;have gB:iN (cY (cX l i B.rt) j i) B:=hB.frame λp hp=>fr p (fB p hp).1 (fB p hp).2;have gC:iN (cY (cX l i B.rt) j i) C:=hC.frame λp hp=>fr p (fC p hp).1 (fC p hp).2;have c1:=vK b1 gB gC;have kA:iN (bi (cY (cX l i B.rt) j i) i) A:=gA.frame λp hp=>ia (fA p hp).1;have kB:iN (bi (cY (cX l i B.rt) j i) i) B:=gB.frame λp hp=>ia (fB p hp).1;have kC:iN (bi (cY (cX l i B.rt) j i) i) C:=gC.frame λp hp=>ia (fC p hp).1;have kI:iN (bi (cY (cX l i B.rt) j i) i) (n B i k C):=⟨c1,kB,kC⟩;have c2:(bi (cY (cX l i B.rt) j i) i)[j]?=some (m.1,m.2,A.rt,(n B i k C).rt,h1):=(ia (mD ij)).trans b2;have d:=vK c2 kA kI;have et:du l i=(bi (bi (cY (cX l i B.rt) j i) i) j,(j:Int)):=by simp only[du,er,e1]
 rw[et];have fI:∀p∈(n B i k C).cJ,p≠j:=λp hp=>by
  simp only[cJ,dX,dY]at hp;rcases hp with hp|rfl|hp
  ·exact(fB p hp).2
  ·exact ij
  ·exact(fC p hp).2
 exact⟨rfl,⟨d,kA.frame λp hp=>ia (fA p hp).2,kI.frame λp hp=>ia (fI p hp)⟩,λp h1 h2=>(ia h2).trans ((ia h1).trans (fr p h1 h2))⟩
structure Evn(l l':List Nd)(r:Int)(L:Tr)(i:Nat)(k:Key)(R T:Tr):Prop where
 root:r=T.rt
 kR:iN l' T
 pN:T.pN
 ino:T.ino=L.ino++k::R.ino
 cJ:T.cJ=L.cJ++i::R.cJ
 fr:∀p,p∉L.cJ++i::R.cJ→l'[p]?=l[p]?
 lo:max L.ht R.ht≤T.ht
 hi:T.ht≤max L.ht R.ht+1
 st:L.ht≤R.ht+1→R.ht≤L.ht+1→T.ht=max L.ht R.ht+1
theorem EK{l:List Nd}{L R:Tr}{i:Nat}{k:Key}{h0:Int}(hi:l[i]?=some (k.1,k.2,L.rt,R.rt,h0))(hL:iN l L)(hR:iN l R)(aL:L.pN)(aR:R.pN)(hd:(L.cJ++i::R.cJ).Nodup)
  (h1:L.ht≤R.ht+2) (h2:R.ht≤L.ht+2):∃T,Evn l (fT l i).1 (fT l i).2 L i k R T:=by
 have hd0:=hd;simp only[jZ,lD,dY]at hd;obtain⟨dL,⟨iR,dR⟩,dd⟩:=hd;have iL:i∉L.cJ:=λhp=>dd i hp i (.inl rfl) rfl;have m1:=vK hi hL hR;have mf:∀p,p≠i→(bi l i)[p]?=l[p]?:=λp hp=>ia hp;have gL:iN (bi l i) L:=hL.frame λp hp=>mf p λe=>iL (e▸hp);have gR:iN (bi l i) R:=hR.frame λp hp=>mf p λe=>iR (e▸hp);have el:lt (bi l i) (i:Int)=L.rt:=by rw[lt,gD m1]
 have er:bX (bi l i) (i:Int)=R.rt:=by rw[bX,gD m1]
 have en:iT (bi l i) i=L.ht-R.ht:=by rw[iT,el,er,rY gL,rY gR]
 by_cases c1:L.ht-R.ht>1
 ·have hR0:=R.xY;obtain⟨a,j,m,b,hLn⟩:=CQ (t:=L) (by omega);subst hLn;have gj:=gL.1;have eln:iT (bi l i) (j:Int)=a.ht-b.ht:=by rw[iT,lt,bX,gD gj];exact congr (dm _ (rY gL.2.1)) (rY gL.2.2)
  have hj':(n a j m b).rt=(j:Int):=rfl;rw[hj']at el;obtain⟨aa,ab,a1,a2⟩:=aL;simp only[ht]at h1 h2 c1;by_cases c2:a.ht-b.ht<0
  ·have ha0:=a.xY;obtain⟨b1,x,y,b2,hb⟩:=CQ (t:=b) (by omega);subst hb;have gb:=gL.2.2;have hn1:(a.cJ++j::(b1.cJ++x::b2.cJ)).Nodup:=dL;obtain⟨t2,tr,tf⟩:=xJ (A:=a) (B:=b1) (C:=b2) (i:=j) (j:=x) (k:=m) (m:=y) gj gb.1 gL.2.1 gb.2.1 gb.2.2 hn1;have xi:x≠i:=λe=>iL (by rw[←e];simp[cJ]);have ji:j≠i:=λe=>iL (by rw[←e];simp[cJ]);have u1:(dn (bi l i) j).1[i]?=_:=(tf i (mD ji) (mD xi)).trans m1;have u2:=wk ((x:Nat):Int) u1;have ids1:∀p,p∈(n (n a j m b1) x y b2).cJ→p≠i:=λp hp e=>iL (by rw[←e];simp only[cJ,iD,nK]at hp⊢;exact hp);have v1:iN (cX (dn (bi l i) j).1 i x) (n (n a j m b1) x y b2):=tr.frame λp hp=>ke (ids1 p hp);have v2:iN (cX (dn (bi l i) j).1 i x) R:=gR.frame λp hp=>(ke (show p≠i from λe=>iR (e▸hp))).trans (tf p (λe=>dd j (by simp[cJ]) p (.inr hp) e.symm) (λe=>dd x (by simp[cJ]) p (.inr hp) e.symm));have hn2:(((n a j m b1).cJ++x::b2.cJ)++i::R.cJ).Nodup:=(by simp only[cJ,iD,nK]at hd0⊢;exact hd0);obtain⟨w2,wr,wf⟩:=xL (A:=n a j m b1) (B:=b2) (C:=R) (i:=i) (j:=x) (k:=k) (m:=y) u2 v1.1 v1.2.1 v1.2.2 v2 hn2;simp only[pN,ht]at ab a1 a2 c1 c2 h1 h2;have ee:fT l i=du (cX (dn (bi l i) j).1 i x) i:=(by rw[fT,aF (by rw[en];simp only[ht];omega),el,aF (by rw[eln];simp only[ht];omega),t2]);refine⟨n (n a j m b1) x y (n b2 i k R),?_⟩;rw[ee];refine⟨w2,wr,?_,by simp[ino],by simp[cJ],λp hp=>?_,?_,?_,?_⟩
   ·simp only[pN,ht];refine⟨⟨aa,ab.1,?_,?_⟩,⟨ab.2.1,aR,?_,?_⟩,?_,?_⟩<;>omega
   ·simp only[cJ,dX,dY,qM]at hp;obtain⟨⟨p1,p2,p3,p4,p5⟩,p6,p7⟩:=hp;rw[wf p p6 p4,ke p6,tf p p2 p4,mf p p6]
   ·simp only[ht];omega
   ·simp only[ht];omega
   ·simp only[ht];omega
  ·obtain⟨w2,wr,wf⟩:=xL (A:=a) (B:=b) (C:=R) (i:=i) (j:=j) (k:=k) (m:=m) m1 gj gL.2.1 gL.2.2 gR hd0;have ee:fT l i=du (bi l i) i:=by rw[fT,aF (by rw[en];simp only[ht];omega),el,aw (by rw[eln];exact c2)]
   refine⟨n a j m (n b i k R),?_⟩;rw[ee];refine⟨w2,wr,?_,by simp[ino],by simp[cJ],λp hp=>?_,?_,?_,?_⟩
   ·simp only[pN,ht];refine⟨aa,⟨ab,aR,?_,?_⟩,?_,?_⟩<;>omega
   ·simp only[cJ,dX,dY,qM]at hp;obtain⟨⟨p1,p2,p3⟩,p6,p7⟩:=hp;rw[wf p p6 p2,mf p p6]
   ·simp only[ht];omega
   ·simp only[ht];omega
   ·simp only[ht];omega
 ·by_cases c3:L.ht-R.ht< -1
  ·have hL0:=L.xY;obtain⟨a,j,m,b,hRn⟩:=CQ (t:=R) (by omega);subst hRn;have gj:=gR.1;have eln:iT (bi l i) (j:Int)=a.ht-b.ht:=(by rw[iT,lt,bX,gD gj];exact congr (dm _ (rY gR.2.1)) (rY gR.2.2));have hj':(n a j m b).rt=(j:Int):=rfl;rw[hj']at er;obtain⟨aa,ab,a1,a2⟩:=aR;simp only[ht]at h1 h2 c3;by_cases c2:a.ht-b.ht>0
   ·have hb0:=b.xY;obtain⟨b1,x,y,b2,hb⟩:=CQ (t:=a) (by omega);subst hb;have gb:=gR.2.1;have hn1:((b1.cJ++x::b2.cJ)++j::b.cJ).Nodup:=dR;obtain⟨t2,tr,tf⟩:=xL (A:=b1) (B:=b2) (C:=b) (i:=j) (j:=x) (k:=m) (m:=y) gj gb.1 gb.2.1 gb.2.2 gR.2.2 hn1;have xi:x≠i:=λe=>iR (by rw[←e];simp[cJ]);have ji:j≠i:=λe=>iR (by rw[←e];simp[cJ]);have u1:(du (bi l i) j).1[i]?=_:=(tf i (mD ji) (mD xi)).trans m1;have u2:=wl ((x:Nat):Int) u1;have ids1:∀p,p∈(n b1 x y (n b2 j m b)).cJ→p≠i:=λp hp e=>iR (by rw[←e];simp only[cJ,iD,nK]at hp⊢;exact hp);have v1:iN (cY (du (bi l i) j).1 i x) (n b1 x y (n b2 j m b)):=tr.frame λp hp=>kf (ids1 p hp);have v2:iN (cY (du (bi l i) j).1 i x) L:=gL.frame λp hp=>(kf (show p≠i from λe=>iL (e▸hp))).trans (tf p (λe=>dd p hp j (.inr (by simp[cJ])) e) (λe=>dd p hp x (.inr (by simp[cJ])) e));have hn2:(L.cJ++i::(b1.cJ++x::(n b2 j m b).cJ)).Nodup:=(by simp only[cJ,iD,nK]at hd0⊢;exact hd0);obtain⟨w2,wr,wf⟩:=xJ (A:=L) (B:=b1) (C:=n b2 j m b) (i:=i) (j:=x) (k:=k) (m:=y) u2 v1.1 v2 v1.2.1 v1.2.2 hn2;simp only[pN,ht]at aa a1 a2 c3 c2 h1 h2;have ee:fT l i=dn (cY (du (bi l i) j).1 i x) i:=(by rw[fT,aw (by rw[en];simp only[ht];omega),aF (by rw[en];simp only[ht];omega),er,aF (by rw[eln];simp only[ht];omega),t2]);refine⟨n (n L i k b1) x y (n b2 j m b),?_⟩;rw[ee];refine⟨w2,wr,?_,by simp[ino],by simp[cJ],λp hp=>?_,?_,?_,?_⟩
    ·simp only[pN,ht];refine⟨⟨aL,aa.1,?_,?_⟩,⟨aa.2.1,ab,?_,?_⟩,?_,?_⟩<;>omega
    ·simp only[cJ,dX,dY,qM]at hp;obtain⟨p1,p2,⟨p3,p4,p5⟩,p6,p7⟩:=hp;rw[wf p p2 p4,kf p2,tf p p6 p4,mf p p2]
    ·simp only[ht];omega
    ·simp only[ht];omega
    ·simp only[ht];omega
   ·obtain⟨w2,wr,wf⟩:=xJ (A:=L) (B:=a) (C:=b) (i:=i) (j:=j) (k:=k) (m:=m) m1 gj gL gR.2.1 gR.2.2 hd0;have ee:fT l i=dn (bi l i) i:=by rw[fT,aw (by rw[en];simp only[ht];omega),aF (by rw[en];simp only[ht];omega),er,aw (by rw[eln];exact c2)]
    refine⟨n (n L i k a) j m b,?_⟩;rw[ee];refine⟨w2,wr,?_,by simp[ino],by simp[cJ],λp hp=>?_,?_,?_,?_⟩
    ·simp only[pN,ht];refine⟨⟨aL,aa,?_,?_⟩,ab,?_,?_⟩<;>omega
    ·simp only[cJ,dX,dY,qM]at hp;obtain⟨p1,p2,p3,p4,p5⟩:=hp;rw[wf p p2 p4,mf p p2]
    ·simp only[ht];omega
    ·simp only[ht];omega
    ·simp only[ht];omega
  ·have ee:fT l i=(bi l i,(i:Int)):=(by rw[fT,aw (by rw[en];exact c1),aw (by rw[en];exact c3)]);refine⟨n L i k R,?_⟩;rw[ee];refine⟨rfl,⟨m1,gL,gR⟩,⟨aL,aR,by omega,by omega⟩,rfl,rfl,λp hp=>mf p λe=>hp (by rw[e];simp),?_,?_,?_⟩
   ·show _≤max L.ht R.ht+1;omega
   ·exact ig _
   ·intro _ _;rfl
end Tree

namespace Tree
open Tr
inductive jO where
 |L (i:Nat) (k:Key) (r:Tr)
 |R (l:Tr) (i:Nat) (k:Key)
def jO.i:jO→Nat
 |.L i _ _=>i
 |.R _ i _=>i
def jO.put:jO→Tr→Tr
 |.L i k r,t=>n t i k r
 |.R l i k,t=>n l i k t
def fill:Tr→List jO→Tr
 |t,[]=>t
 |t,f::c=>fill (f.put t) c
def lc:List jO→List Nat
 |[]=>[]
 |.L _ _ _::c=>lc c
 |.R l i _::c=>lc c++l.cJ++[i]
def rc:List jO→List Nat
 |[]=>[]
 |.L i _ r::c=>i::(r.cJ++rc c)
 |.R _ _ _::c=>rc c
def lk:List jO→List Key
 |[]=>[]
 |.L _ _ _::c=>lk c
 |.R l _ k::c=>lk c++l.ino++[k]
def rk:List jO→List Key
 |[]=>[]
 |.L _ k r::c=>k::(r.ino++rk c)
 |.R _ _ _::c=>rk c
theorem lT:∀(c:List jO) (t:Tr),(fill t c).cJ=lc c++t.cJ++rc c
 |[],t=>by simp[fill,lc,rc]
 |.L i k r::c,t=>by rw[fill,lT c];simp[jO.put,cJ,lc,rc]
 |.R l i k::c,t=>by rw[fill,lT c];simp[jO.put,cJ,lc,rc]
theorem ox:∀(c:List jO) (t:Tr),(fill t c).ino=lk c++t.ino++rk c
 |[],t=>by simp[fill,lk,rk]
 |.L i k r::c,t=>by rw[fill,ox c];simp[jO.put,ino,lk,rk]
 |.R l i k::c,t=>by rw[fill,ox c];simp[jO.put,ino,lk,rk]
theorem mX:∀{c:List jO} {t:Tr},(fill t c).pN→t.pN
 |[],_,h=>h
 |.L i k r::c,t,h=>(mX (c:=c) h).1
 |.R l i k::c,t,h=>(mX (c:=c) h).2.1
def A9(l:List Nd):Int→List jO→Prop
 |_,[]=>True
 |hole,.L i k r::c=>(∃h,l[i]?=some (k.1,k.2,hole,r.rt,h))∧iN l r∧A9 l i c
 |hole,.R s i k::c=>(∃h,l[i]?=some (k.1,k.2,s.rt,hole,h))∧iN l s∧A9 l i c
theorem kb{l:List Nd}:∀{c:List jO} {t:Tr},iN l (fill t c)→iN l t∧A9 l t.rt c
 |[],_,h=>⟨h,trivial⟩
 |.L i k r::c,t,h=>by
  obtain⟨⟨h1,h2,h3⟩,h4⟩:=kb (c:=c) h;exact⟨h2,⟨_,h1⟩,h3,h4⟩
 |.R s i k::c,t,h=>by
  obtain⟨⟨h1,h2,h3⟩,h4⟩:=kb (c:=c) h;exact⟨h3,⟨_,h1⟩,h2,h4⟩
theorem A9.frame{l l':List Nd}:∀{c:List jO} {hole:Int},A9 l hole c→(∀j,j∈lc c∨j∈rc c→l'[j]?=l[j]?)→A9 l' hole c
 |[],_,_,_=>trivial
 |.L i k r::c,hole,⟨⟨h,h1⟩,h2,h3⟩,hf=>⟨⟨h,by rw[hf i (.inr (by simp[rc]))];exact h1⟩,h2.frame λj hj=>hf j (.inr (by simp[rc,hj])),h3.frame λj hj=>hf j (hj.imp (λx=>x) λx=>by simp[rc,x])⟩
 |.R s i k::c,hole,⟨⟨h,h1⟩,h2,h3⟩,hf=>⟨⟨h,by rw[hf i (.inl (by simp[lc]))];exact h1⟩,h2.frame λj hj=>hf j (.inl (by simp[lc,hj])),h3.frame λj hj=>hf j (hj.imp (λx=>by simp[lc,x]) λx=>x)⟩
def nE:Tr→Bool
 |.e=>false
 |.n _ _ _ _=>true
def lP(l:List Nd)(was i:Int):List Int→List Nd×Int
 |[]=>(l,i)
 |up::c=>let l1:=if lt l up=was then cX l up i else cY l up i
  lP (fT l1 up).1 up (fT l1 up).2 c
def jL(l:List Nd)(i:Int):Key:=((nth l i).1,(nth l i).2.1)
def iS(l:List Nd)(was i:Int):List Int→List Nd×Int
 |[]=>(l,i)
 |up::c=>let l1:=if lt l up=was∧(was≠-1∨lF (jL l i) (jL l up)=true)then cX l up i else cY l up i
  iS (fT l1 up).1 up (fT l1 up).2 c
theorem BO:∀(c:List Int) (l:List Nd) (was i:Int),was≠-1→(∀x∈c,x≠-1)→iS l was i c=lP l was i c
 |[],l,was,i,_,_=>rfl
 |up::c,l,was,i,h,hc=>by
  simp only[iS,lP,h,ne_eq,vW,true_or,and_true];exact BO c _ _ _ (hc up (by simp)) λx hx=>hc x (by simp[hx])
theorem BE:∀(c:List Int) (l:List Nd) (was i:Int),(lP l was i c).1.length=l.length
 |[],l,was,i=>rfl
 |up::c,l,was,i=>by
  simp only[lP];rw[BE c,qc];split<;>simp[cT,cV]
theorem BN:∀(c:List Int) (l:List Nd) (was i:Int),(iS l was i c).1.length=l.length
 |[],l,was,i=>rfl
 |up::c,l,was,i=>by
  simp only[iS];rw[BN c,qc];split<;>simp[cT,cV]
def gZ(c:List jO):List Int:=c.map λf=>(f.i:Int)
structure Zp(l l':List Nd)(r:Int)(s:Tr)(c:List jO)(T:Tr):Prop where
 root:r=T.rt
 kR:iN l' T
 pN:T.pN
 ino:T.ino=lk c++s.ino++rk c
 cJ:T.cJ=lc c++s.cJ++rc c
 fr:∀p,p∉lc c++s.cJ++rc c→l'[p]?=l[p]?
def Knw(t s:Tr)(c:List jO)(was:Int):Prop:=(∃w:Nat,was=w∧t.rt=w)∨(was=-1∧t=.e∧∃i k,s=.n .e i k .e∧(∀m∈lk c,lF m k=true)∧∀m∈rk c,lF k m=true)
theorem vB:∀(c:List jO) (l:List Nd) (t s:Tr) (was:Int),Knw t s c was→A9 l was c→iN l s→(fill t c).pN→s.pN→s.ht≤t.ht+1→t.ht≤s.ht+1→(lc c++t.cJ++rc c).Nodup→(lc c++s.cJ++rc c).Nodup→
  ∃T,Zp l (iS l was s.rt (gZ c)).1 (iS l was s.rt (gZ c)).2 s c T
 |[],l,t,s,was,_,_,hs,_,as,_,_,_,_=>⟨s,rfl,hs,as,by simp[lk,rk],by simp[lc,rc],λp hp=>rfl⟩
 |.L i k r::c,l,t,s,was,hw,⟨⟨h0,hi⟩,hr,hc⟩,hs,ha,as,g1,g2,d1,d2=>by
  have hv:=mX (c:=c) (t:=n t i k r) ha;have e1:lt l (i:Int)=was∧(was≠-1∨lF (jL l s.rt) (jL l i)=true):=by
   refine⟨by rw[lt,gD hi],?_⟩;rcases hw with⟨w,rfl,_⟩|⟨_,_,j,k',rfl,_,hk⟩
   ·left;omega
   ·right;have e2:jL l (i:Int)=k:=by rw[jL,gD hi]
    have e3:jL l (n e j k' e).rt=k':=by
     show jL l (j:Int)=k';rw[jL,gD hs.1]
    rw[e2,e3];exact hk k (by simp[rk])
  have d2':=d2;simp only[lc,rc,jZ,lD,dX,dY,qM]at d2;obtain⟨⟨dl,ds,dls⟩,⟨⟨ir,ic⟩,dr,dc,drc⟩,dd⟩:=d2;have is:i∉s.cJ:=λhx=>dd i (.inr hx) i (.inl rfl) rfl;have il:i∉lc c:=λhx=>dd i (.inl hx) i (.inl rfl) rfl;have a1:=wk s.rt hi;have fs:iN (cX l i s.rt) s:=hs.frame λp hp=>ke (show p≠i from λe=>is (e▸hp));have fr:iN (cX l i s.rt) r:=hr.frame λp hp=>ke (show p≠i from λe=>ir (e▸hp));have hn:(s.cJ++i::r.cJ).Nodup:=by
   rw[jZ,lD];refine⟨ds,⟨ir,dr⟩,λa ha b hb=>dd a (.inr ha) b ?_⟩;rw[dY]at hb;exact hb.imp (λx=>x) .inl
  obtain⟨T,ev⟩:=EK (k:=k) a1 fs fr as hv.2.1 hn (by have:=hv.2.2;omega) (by have:=hv.2.2;omega);have fc:A9 (fT (cX l i s.rt) i).1 i c:=hc.frame λj hj=>by
   have ne:j∉s.cJ++i::r.cJ:=λhx=>by
    rw[dX,dY]at hx;rcases hx with hx|rfl|hx
    ·rcases hj with hj|hj
     ·exact dls j hj j hx rfl
     ·exact dd j (.inr hx) j (.inr (.inr hj)) rfl
    ·exact hj.elim il ic
    ·rcases hj with hj|hj
     ·exact dd j (.inl hj) j (.inr (.inl hx)) rfl
     ·exact drc j hx j hj rfl
   rw[ev.fr j ne];exact ke (show j≠i from λe=>ne (by rw[e];simp))
  have r1:=ev.root;obtain⟨lo,hi',st⟩:=(⟨ev.lo,ev.hi,ev.st⟩:_∧_∧_);have av:=hv.2.2;obtain⟨T',mv⟩:=vB c (fT (cX l i s.rt) i).1 (n t i k r) T i (.inl ⟨i,rfl,rfl⟩) fc ev.kR ha ev.pN (by simp only[ht];omega) (by simp only[ht];omega)
   (by simpa [lc,rc,cJ]using d1) (by rw[ev.cJ];simpa [lc,rc]using d2')
  refine⟨T',?_⟩;have e2:iS l was s.rt (gZ (.L i k r::c))=iS (fT (cX l i s.rt) i).1 i T.rt (gZ c):=by
   simp only[gZ,ka,jO.i,iS,aF e1];rw[r1]
  rw[e2];refine⟨mv.root,mv.kR,mv.pN,by rw[mv.ino,ev.ino];simp[lk,rk],by rw[mv.cJ,ev.cJ];simp[lc,rc],λp hp=>?_⟩;have hp2:p∉lc c++T.cJ++rc c:=by rw[ev.cJ];simpa [lc,rc]using hp
  have hp3:p∉s.cJ++i::r.cJ:=λhx=>hp (by
   simp only[dX,dY,lc,rc]at hx⊢;rcases hx with hx|hx|hx
   ·exact .inl (.inr hx)
   ·exact .inr (.inl hx)
   ·exact .inr (.inr (.inl hx)))
  rw[mv.fr p hp2,ev.fr p hp3];exact ke (show p≠i from λe=>hp3 (by rw[e];simp))
 |.R q i k::c,l,t,s,was,hw,⟨⟨h0,hi⟩,hr,hc⟩,hs,ha,as,g1,g2,d1,d2=>by
  have hv:=mX (c:=c) (t:=n q i k t) ha;have e1:¬(lt l (i:Int)=was∧(was≠-1∨lF (jL l s.rt) (jL l i)=true)):=by
   rintro⟨e,e0⟩;rw[lt,gD hi]at e;rcases hw with⟨w,rfl,hw⟩|⟨h1,_,j,k',rfl,hk,_⟩
   ·have m1:=OE (t:=q) (i:=w) e;have m2:=OE (t:=t) hw;simp only[lc,jZ]at d1;exact d1.1.2.2 w (by simp[m1]) w m2 rfl
   ·rcases e0 with e0|e0
    ·exact e0 h1
    ·have e2:jL l (i:Int)=k:=(by rw[jL,gD hi]);have e3:jL l (n Tr.e j k' Tr.e).rt=k':=by
      show jL l (j:Int)=k';rw[jL,gD hs.1]
     rw[e2,e3,EV (hk k (by simp[lk]))]at e0;cases e0
  have d2':=d2;simp only[lc,rc,jZ,lD,dX,dY,gH,qM,List.not_mem_nil,vW,or_false,List.nodup_nil,and_true,true_and]at d2;obtain⟨⟨⟨⟨dl,dq,dlq⟩,di⟩,ds,dls⟩,dr,dd⟩:=d2;have is:i∉s.cJ:=λhx=>dls i (.inr rfl) i hx rfl;have iq:i∉q.cJ:=λhx=>di i (.inr hx) i rfl rfl;have il:i∉lc c:=λhx=>di i (.inl hx) i rfl rfl;have ic:i∉rc c:=λhx=>dd i (.inl (.inr rfl)) i hx rfl;have a1:=wl s.rt hi;have fs:iN (cY l i s.rt) s:=hs.frame λp hp=>kf (show p≠i from λe=>is (e▸hp));have fr:iN (cY l i s.rt) q:=hr.frame λp hp=>kf (show p≠i from λe=>iq (e▸hp));have hn:(q.cJ++i::s.cJ).Nodup:=by
   rw[jZ,lD];refine⟨dq,⟨is,ds⟩,λa hx b hb=>?_⟩;rw[dY]at hb;rcases hb with rfl|hb
   ·exact di a (.inr hx) b rfl
   ·exact dls a (.inl (.inr hx)) b hb
  obtain⟨T,ev⟩:=EK (k:=k) a1 fr fs hv.1 as hn (by have:=hv.2.2;omega) (by have:=hv.2.2;omega);have fc:A9 (fT (cY l i s.rt) i).1 i c:=hc.frame λj hj=>by
   have ne:j∉q.cJ++i::s.cJ:=λhx=>by
    rw[dX,dY]at hx;rcases hx with hx|rfl|hx
    ·rcases hj with hj|hj
     ·exact dlq j hj j hx rfl
     ·exact dd j (.inl (.inl (.inr hx))) j hj rfl
    ·exact hj.elim il ic
    ·rcases hj with hj|hj
     ·exact dls j (.inl (.inl hj)) j hx rfl
     ·exact dd j (.inr hx) j hj rfl
   rw[ev.fr j ne];exact kf (show j≠i from λe=>ne (by rw[e];simp))
  have r1:=ev.root;obtain⟨lo,hi',st⟩:=(⟨ev.lo,ev.hi,ev.st⟩:_∧_∧_);have av:=hv.2.2;obtain⟨T',mv⟩:=vB c (fT (cY l i s.rt) i).1 (n q i k t) T i (.inl ⟨i,rfl,rfl⟩) fc ev.kR ha ev.pN (by simp only[ht];omega) (by simp only[ht];omega)
   (by simpa [lc,rc,cJ]using d1) (by rw[ev.cJ];simpa [lc,rc]using d2')
  refine⟨T',?_⟩;have e2:iS l was s.rt (gZ (.R q i k::c))=iS (fT (cY l i s.rt) i).1 i T.rt (gZ c):=by
   simp only[gZ,ka,jO.i,iS,aw e1];rw[r1]
  rw[e2];refine⟨mv.root,mv.kR,mv.pN,by rw[mv.ino,ev.ino];simp[lk,rk],by rw[mv.cJ,ev.cJ];simp[lc,rc],λp hp=>?_⟩;have hp2:p∉lc c++T.cJ++rc c:=by rw[ev.cJ];simpa [lc,rc]using hp
  have hp3:p∉q.cJ++i::s.cJ:=λhx=>hp (by
   simp only[dX,dY,lc,rc,gH]at hx⊢;rcases hx with hx|hx|hx
   ·exact .inl (.inl (.inl (.inr hx)))
   ·exact .inl (.inl (.inr (.inl hx)))
   ·exact .inl (.inr hx))
  rw[mv.fr p hp2,ev.fr p hp3];exact kf (show p≠i from λe=>hp3 (by rw[e];simp))
def find(k:Key):Tr→List jO→Tr×List jO
 |.e,c=>(.e,c)
 |.n l i m r,c=>if lF k m then find k l (.L i m r::c)else if k=m then(.n l i m r,c)else find k r (.R l i m::c)
theorem WO(c:List jO):∀x∈gZ c,x≠-1:=by
 intro x hx;obtain⟨f,_,rfl⟩:=ma.1 hx;omega
theorem oa(k:Key):∀(t:Tr) (c:List jO),fill (find k t c).1 (find k t c).2=fill t c
 |.e,c=>rfl
 |.n l i m r,c=>by
  unfold find;split
  ·rw[oa k l];rfl
  ·split
   ·rfl
   ·rw[oa k r];rfl
def yP(l:List Key):Prop:=l.Pairwise λa b=>lF a b=true
theorem vv(k:Key):∀(t:Tr) (c:List jO),yP t.ino→(∀m∈lk c,lF m k=true)→(∀m∈rk c,lF k m=true)→
  (∀m∈lk (find k t c).2,lF m k=true)∧(∀m∈rk (find k t c).2,lF k m=true)∧((find k t c).1=.e∨∃l i r,(find k t c).1=.n l i k r)
 |.e,c,_,h1,h2=>⟨h1,h2,.inl rfl⟩
 |.n l i m r,c,hs,h1,h2=>by
  simp only[ino,yP,z_,ra]at hs;obtain⟨s1,⟨s2,s3⟩,s4⟩:=hs;unfold find;by_cases c1:lF k m=true
  ·rw[aF c1];refine vv k l _ s1 h1 λx hx=>?_;simp only[rk,dY,dX]at hx;rcases hx with rfl|hx|hx
   ·exact c1
   ·exact xh c1 (s2 x hx)
   ·exact h2 x hx
  ·rw[aw c1];by_cases c2:k=m
   ·rw[aF c2];exact⟨h1,h2,.inr ⟨l,i,r,by rw[c2]⟩⟩
   ·rw[aw c2];have c3:=IE (by simpa using c1) c2;refine vv k r _ s3 (λx hx=>?_) h2;simp only[lk,dX,gH]at hx;rcases hx with(hx|hx)|rfl
    ·exact h1 x hx
    ·exact xh (s4 x hx m (by simp)) c3
    ·exact c3
def fX:Tr→List jO→Tr×List jO
 |.e,c=>(.e,c)
 |.n .e i m r,c=>(.n .e i m r,c)
 |.n (.n a j x b) i m r,c=>fX (.n a j x b) (.L i m r::c)
theorem ux:∀(t:Tr) (c:List jO),fill (fX t c).1 (fX t c).2=fill t c
 |.e,c=>rfl
 |.n .e i m r,c=>rfl
 |.n (.n a j x b) i m r,c=>by rw[fX,ux (.n a j x b)];rfl
theorem CX:∀(t:Tr) (c:List jO),t≠.e→∃j m b,(fX t c).1=.n .e j m b∧∃d,(fX t c).2=d++c∧lk d=[]∧lc d=[]
 |.e,c,h=>absurd rfl h
 |.n .e i m r,c,_=>⟨i,m,r,rfl,[],rfl,rfl,rfl⟩
 |.n (.n a j x b) i m r,c,_=>by
  obtain⟨j',m',b',h1,d,h2,h3,h4⟩:=CX (.n a j x b) (.L i m r::c) (by simp);have lkd:∀d:List jO,lk d=[]→lk (d++[.L i m r])=[]:=by
   intro d
   induction d with
   |nil=>intro _;rfl
   |cons f d ih=>cases f<;>simp[lk]<;>exact ih
  have lcd:∀d:List jO,lc d=[]→lc (d++[.L i m r])=[]:=by
   intro d
   induction d with
   |nil=>intro _;rfl
   |cons f d ih=>cases f<;>simp[lc]<;>exact ih
  exact⟨j',m',b',h1,d++[.L i m r],by rw[fX,h2];simp,lkd d h3,lcd d h4⟩
theorem yP.BX{a b:List Key}{k m:Key}(h:yP (a++k::b)):(∀x∈a,lF x k=true)∧(∀x∈b,lF k x=true):=by
 simp only[yP,z_,ra]at h;exact⟨λx hx=>h.2.2 x hx k (by simp),h.2.1.1⟩
theorem yP.put{a b:List Key}{k:Key}(h:yP (a++b))(h1:∀x∈a,lF x k=true)(h2:∀x∈b,lF k x=true):yP (a++k::b):=by
 simp only[yP,z_,ra,dY]at h⊢;refine⟨h.1,⟨h2,h.2.1⟩,λx hx y hy=>?_⟩;rcases hy with rfl|hy
 ·exact h1 x hx
 ·exact h.2.2 x hx y hy
theorem yP.nodup{a:List Key}(h:yP a):a.Nodup:=h.imp λ{x y} hxy e=>by rw[e,sZ]at hxy;cases hxy
theorem Q3{l l1:List Nd}{T:Tr}{k:Key}{c:List jO}{i:Nat}(hT:iN l T)(hf:find k T []=(.e,c))(ha:T.pN)(hd:T.cJ.Nodup)(hs:yP T.ino)(hi:i∉T.cJ)(h1:l1[i]?=some (k.1,k.2,-1,-1,1))(hr:∀j∈T.cJ,l1[j]?=l[j]?):
  ∃T',Zp l1 (iS l1 (-1) i (gZ c)).1 (iS l1 (-1) i (gZ c)).2 (.n .e i k .e) c T'∧T.ino=lk c++rk c∧T.cJ=lc c++rc c∧(∀m∈lk c,lF m k=true)∧∀m∈rk c,lF k m=true:=by
 have e:=oa k T [];rw[hf]at e;have e:fill .e c=T:=e;have hl:=vv k T [] hs (by simp[lk]) (by simp[rk]);rw[hf]at hl;obtain⟨g1,g2,_⟩:=hl;have ei:T.cJ=lc c++rc c:=by rw[←e,lT];simp[cJ]
 have eo:T.ino=lk c++rk c:=by rw[←e,ox];simp[ino]
 have hR:iN l1 T:=hT.frame hr;rw[←e]at hR ha;have hd2:(lc c++(n Tr.e i k Tr.e).cJ++rc c).Nodup:=by
  rw[ei]at hd hi;simp only[cJ,po,iD,Dj];rw[jZ]at hd⊢;rw[dX,qM]at hi;refine⟨hd.1,lD.2 ⟨hi.2,hd.2.1⟩,λa ha b hb=>?_⟩;rcases dY.1 hb with rfl|hb
  ·exact λe=>hi.1 (e▸ha)
  ·exact hd.2.2 a ha b hb
 obtain⟨T',mv⟩:=vB c l1 .e (.n .e i k .e) (-1) (.inr ⟨rfl,rfl,i,k,rfl,g1,g2⟩) (kb hR).2 ⟨h1,trivial,trivial⟩ ha ⟨trivial,trivial,by simp[ht],by simp[ht]⟩ (by simp[ht]) (by simp[ht])
  (by rw[ei]at hd;simpa [cJ]using hd) hd2
 exact⟨T',mv,eo,ei,g1,g2⟩
def Bk:Tr→Tr→Tr
 |.e,b=>b
 |.n l i k r,_=>.n l i k r
theorem Ms{l:List Nd}{T a b:Tr}{k:Key}{c:List jO}{i:Nat}(hT:iN l T)(hf:T=fill (.n a i k b) c)(hab:a=.e∨b=.e)(ha:T.pN)(hd:T.cJ.Nodup):
  ∃T' s,s=Bk a b∧Zp l (lP l i s.rt (gZ c)).1 (lP l i s.rt (gZ c)).2 s c T'∧s.ino=a.ino++b.ino∧s.cJ=a.cJ++b.cJ:=by
 subst hf;obtain⟨h1,h2⟩:=kb hT;have ea:=mX ha;have hs:iN l (Bk a b)∧(Bk a b).pN∧(Bk a b).ht+1=(n a i k b).ht∧(Bk a b).ino=a.ino++b.ino∧(Bk a b).cJ=a.cJ++b.cJ:=by
  cases a with
  |e=>
   refine⟨h1.2.2,ea.2.1,?_,rfl,rfl⟩;have:=b.xY;simp only[ht,Bk];omega
  |n l i k r=>
   have c2:b=.e:=hab.resolve_left (by simp);refine⟨h1.2.1,ea.1,?_,by rw[c2];simp[ino,Bk],by rw[c2];simp[cJ,Bk]⟩;have:=(n l i k r).xY;rw[c2];simp only[ht,Bk]at this⊢;omega
 obtain⟨q1,q2,q3,q4,q5⟩:=hs;have hd1:(lc c++(n a i k b).cJ++rc c).Nodup:=by rw[←lT];exact hd
 have hd2:(lc c++(Bk a b).cJ++rc c).Nodup:=by
  rw[q5];refine hd1.sublist ?_;simp only[cJ];exact((Hg _).append ((Hg _).append (List.sublist_cons_self _ _))).append (Hg _)
 obtain⟨T',mv⟩:=vB c l (.n a i k b) (Bk a b) i (.inl ⟨i,rfl,rfl⟩) h2 q1 ha q2 (by omega) (by omega) hd1 hd2;refine⟨T',_,rfl,?_,q4,q5⟩;rw[←BO _ _ _ _ (by omega) (WO c)];exact mv
end Tree

namespace gT
open bK
structure Wn where
 w:Int
 t0:Int
 v0:Int
 t1:Int
 v1:Int
 t2:Int
 v2:Int
 la:Int
structure uV(v:Wn):Prop where
 w:U v.w
 t0:U v.t0
 v0:U v.v0
 t1:U v.t1
 v1:U v.v1
 t2:U v.t2
 v2:U v.v2
 la:U v.la
def Wn.all(v:Wn)(t x:Int):Wn:={v with t0:=t,v0:=x,t1:=t,v1:=x,t2:=t,v2:=x}
def Wn.D7(v:Wn)(t x:Int):Wn:={v with t1:=t,v1:=x,t2:=t,v2:=x}
def Wn.s2(v:Wn)(t x:Int):Wn:={v with t2:=t,v2:=x}
def Wn.push(v:Wn)(t x:Int):Wn:={v with t0:=v.t1,v0:=v.v1,t1:=v.t2,v1:=v.v2,t2:=t,v2:=x}
def pO(t s w:Int):Prop:=dV t s>w
instance(t s w:Int):Decidable (pO t s w):=by unfold pO;infer_instance
def AU(v:Wn)(t x:Int):Wn:=if x≥v.v1 then v.D7 t x else if x≥v.v2 then v.s2 t x else v
def wK(v:Wn)(t x:Int):Wn:=
 if pO t v.t0 v.w then(if pO t v.t1 v.w then(v.push t x).push t x else v.push t x)
 else if v.t1=v.t0∧pO t v.t0 (v.w/4)then v.D7 t x
 else if v.t2=v.t1∧pO t v.t0 (v.w/2)then v.s2 t x else v
def Wn.tick(v:Wn)(t:Int):Wn:={v with la:=if t>v.la then t else v.la}
def wU(v:Wn)(t x:Int):Wn:=if x≥v.v0∨pO t v.t2 v.w then v.all t x else wK (AU v t x) t x
def AV(v:Wn)(t x:Int):Wn:=wU (v.tick t) (v.tick t).la x
theorem uV.all(h:uV v){t x:Int}(ht:U t)(hx:U x):uV (v.all t x):=⟨h.w,ht,hx,ht,hx,ht,hx,h.la⟩
theorem uV.D7(h:uV v){t x:Int}(ht:U t)(hx:U x):uV (v.D7 t x):=⟨h.w,h.t0,h.v0,ht,hx,ht,hx,h.la⟩
theorem uV.s2(h:uV v){t x:Int}(ht:U t)(hx:U x):uV (v.s2 t x):=⟨h.w,h.t0,h.v0,h.t1,h.v1,ht,hx,h.la⟩
theorem uV.push(h:uV v){t x:Int}(ht:U t)(hx:U x):uV (v.push t x):=⟨h.w,h.t1,h.v1,h.t2,h.v2,ht,hx,h.la⟩
theorem uV.tick(h:uV v){t:Int}(ht:U t):uV (v.tick t):=⟨h.w,h.t0,h.v0,h.t1,h.v1,h.t2,h.v2,by
 show U (if _ then _ else _);split
 ·exact ht
 ·exact h.la⟩
theorem uV.AU{v:Wn}(h:uV v){t x:Int}(ht:U t)(hx:U x):uV (AU v t x):=by
 unfold gT.AU;split
 ·exact h.D7 ht hx
 ·split
  ·exact h.s2 ht hx
  ·exact h
theorem uV.wK{v:Wn}(h:uV v){t x:Int}(ht:U t)(hx:U x):uV (wK v t x):=by
 unfold gT.wK;split
 ·split
  ·exact(h.push ht hx).push ht hx
  ·exact h.push ht hx
 ·split
  ·exact h.D7 ht hx
  ·split
   ·exact h.s2 ht hx
   ·exact h
theorem uV.wU{v:Wn}(h:uV v){t x:Int}(ht:U t)(hx:U x):uV (wU v t x):=by
 unfold gT.wU;split
 ·exact h.all ht hx
 ·exact(h.AU ht hx).wK ht hx
theorem uV.AV{v:Wn}(h:uV v){t x:Int}(ht:U t)(hx:U x):uV (AV v t x):=(h.tick ht).wU (h.tick ht).la hx
abbrev Sm:Type:=Int×Int×Int×Int×Int×Int×Int×Int×Bool
abbrev i_(s:Sm):Int:=s.1
abbrev gK(s:Sm):Int:=s.2.1
abbrev FO(s:Sm):Int:=s.2.2.1
abbrev AH(s:Sm):Int:=s.2.2.2.1
abbrev OI(s:Sm):Int:=s.2.2.2.2.1
abbrev fD(s:Sm):Int:=s.2.2.2.2.2.1
abbrev gP(s:Sm):Int:=s.2.2.2.2.2.2.1
abbrev kP(s:Sm):Int:=s.2.2.2.2.2.2.2.1
abbrev rz(s:Sm):Bool:=s.2.2.2.2.2.2.2.2
structure mN(s:Sm):Prop where
 af:U (i_ s)
 del:U (gK s)
 pri:U (FO s)
 Xh:U (AH s)
 bX:U (OI s)
 Ek:U (fD s)
 bn:U (gP s)
 W8:U (kP s)
structure Sv where
 n:Int
 nx:Int
structure Lp(r:Sv):Prop where
 n:U r.n
 nx:U r.nx
def rB(r:Sv)(s:Sm):Bool:=decide (fD s>0)&&!decide (FO s<r.nx)
def rU(r:Sv)(s:Sm):Sv:=if rB r s then⟨u64.wrap (r.n+1),gK s⟩else r
theorem Lp.rU{r:Sv}(h:Lp r){s:Sm}(hs:mN s):Lp (rU r s):=by
 unfold gT.rU;split
 ·exact⟨ub _,hs.del⟩
 ·exact h
structure Pp where
 dz:Int
 n:Int
 full:Bool
structure WV(p:Pp):Prop where
 dz:U p.dz
 n:0≤p.n∧p.n≤3
 full:p.full=false→p.n<3
def pU(p:Pp)(start limited:Bool)(bw:Int):Pp:=
 if !p.full&&start&&!limited then
  (if bw≥qI p.dz 320 256 then⟨bw,0,p.full⟩else⟨p.dz,p.n+1,decide (p.n+1=3)⟩)
 else p
theorem WV.pU{p:Pp}(h:WV p){a b:Bool}{bw:Int}(hb:U bw):WV (pU p a b bw):=by
 unfold gT.pU;split
 ·rename_i hc;have hf:p.full=false:=by simp at hc;exact hc.1.1
  have hn:=h.full hf;have:=h.n;split
  ·exact⟨hb,by simp,λ_=>by simp⟩
  ·exact⟨h.dz,by simp;omega,λhh=>by simp at hh⊢;omega⟩
 ·exact h
structure Cy where
 ph:Int
 lh:Int
structure yq(c:Cy):Prop where
 ph:0≤c.ph∧c.ph<8
 lh:U c.lh
def Ml(af ph:Int):Cy:=⟨ph%8,af⟩
def cB(c:Cy)(af bX bn fl up one:Int):Bool:=
 if c.ph=0 then decide (dV af c.lh>bX)&&(decide (bn>0)||decide (fl≥up))
 else if c.ph=1 then decide (dV af c.lh>bX)||decide (fl≤one)else decide (dV af c.lh>bX)
def cU(c:Cy)(af bX bn fl up one:Int):Cy:=if cB c af bX bn fl up one then Ml af (c.ph+1)else c
def cG(c:Cy):Int:=if c.ph=0 then 320 else if c.ph=1 then 192 else 256
theorem yq.st{af ph:Int}(h:U af):yq (Ml af ph):=⟨by unfold Ml;dsimp only;omega,h⟩
theorem yq.cU{c:Cy}(h:yq c){af bX bn fl up one:Int}(hn:U af):yq (cU c af bX bn fl up one):=by
 unfold gT.cU;split
 ·exact yq.st hn
 ·exact h
structure Pb where
 dz:Int
 lh:Int
 on:Bool
 ki:Int
 rd:Bool
structure Jp(b:Pb):Prop where
 dz:U b.dz
 lh:U b.lh
 ki:U b.ki
def Bc(b:Pb)(af:Int):Bool:=decide (b.dz>0)&&decide (af>bH b.lh 10000000000)
def yX(b:Pb)(af bX:Int):Bool:=decide (bX>0)&&(decide (b.dz=0)||(decide (bX≤b.dz)||Bc b af))
def lO(b:Pb)(af bX:Int):Pb:=if yX b af bX then{b with dz:=bX,lh:=af}else b
def Cw(b:Pb)(af:Int)(start:Bool)(fl floor:Int):Bool×Pb:=
 if b.ki=0 then(if fl≤floor then(false,{b with ki:=bH af 200000000,rd:=false})else(false,b))
 else if !(b.rd||start)then(false,{b with rd:=b.rd||start})
 else if af≤b.ki then(false,{b with rd:=b.rd||start})
 else(true,{b with rd:=b.rd||start,lh:=af,on:=false})
def bU(b:Pb)(af bX:Int)(start:Bool)(fl floor:Int):(Bool×Bool)×Pb:=
 if Bc b af&&!b.on then((true,false),{lO b af bX with on:=true,ki:=0,rd:=false})
 else if b.on then((false,(Cw (lO b af bX) af start fl floor).1),(Cw (lO b af bX) af start fl floor).2)
 else((false,false),lO b af bX)
theorem Jp.new(h:Jp b){af bX:Int}(hn:U af)(hr:U bX):Jp (lO b af bX):=by
 unfold lO;split
 ·exact⟨hr,hn,h.ki⟩
 ·exact h
theorem Jp.lv{b:Pb}(h:Jp b){af fl floor:Int}{st:Bool}(hn:U af):Jp (Cw b af st fl floor).2:=by
 unfold Cw;split
 ·split
  ·exact⟨h.dz,h.lh,oT hn (bh _)⟩
  ·exact h
 ·split
  ·exact⟨h.dz,h.lh,h.ki⟩
  ·split
   ·exact⟨h.dz,h.lh,h.ki⟩
   ·exact⟨h.dz,hn,h.ki⟩
theorem Jp.bU{b:Pb}(h:Jp b){af bX fl floor:Int}{st:Bool}(hn:U af)(hr:U bX):Jp (bU b af bX st fl floor).2:=by
 have:=h.new hn hr;unfold gT.bU;split
 ·exact⟨this.dz,this.lh,bh 0⟩
 ·split
  ·exact this.lv hn
  ·exact this
structure Pl where
 jl:Bool
 uY:Bool
 bw:Int
 n:Int
 bn:Int
 t0:Int
 d0:Int
 l0:Int
structure rn(q:Pl):Prop where
 bw:U q.bw
 n:0≤q.n∧q.n≤48
 bn:U q.bn
 t0:U q.t0
 d0:U q.d0
 l0:U q.l0
 nu:q.jl=true→q.n<48
 nm:q.jl=false→q.uY=true→q.n≤16
def Jz(a b:Int):Int:=a/2+b/2+(a%2+b%2)/2
def apart(a b:Int):Int:=if a<b then b-a else a-b
theorem Xv{a b:Int}(ha:U a)(hb:U b):U (Jz a b):=by unfold U Jz at*;omega
def oF(q:Pl)(s:Sm):Option Int:=
 if dV (gK s) q.d0=0∨dV (i_ s) q.t0=0 then none
 else if dV q.bn q.l0<qI (dV (gK s) q.d0) 50 256 then none
 else some (qI (dV (gK s) q.d0) 1000000000 (dV (i_ s) q.t0))
def lu(q:Pl)(s:Sm):Pl:={q with uY:=true,n:=0,t0:=i_ s,d0:=gK s,l0:=q.bn}
def gE(q:Pl):Pl:={q with jl:=false,uY:=false,bw:=0}
def xu(q:Pl)(s:Sm)(r:Int):Pl:=if q.bw>0∧apart q.bw r≤q.bw/8 then{q with bw:=Jz q.bw r,jl:=true,n:=0}else lu {q with bw:=r} s
def tG(q:Pl)(s:Sm):Pl:=match oF q s with
 |none=>q
 |some r=>xu q s r
def mj(q:Pl)(s:Sm):Pl:={q with bn:=bH q.bn (gP s)}
def gw(q:Pl)(o:Bool):Pl:=if o then{q with n:=q.n+1}else q
def C_(q:Pl)(o:Bool)(s:Sm):Pl:=
 if q.jl then(if o=true∧q.n=48 then{gE q with n:=0}else q)
 else if q.n>16 then gE q
 else if q.n≥4∧gP s>0 then tG q s else q
def yn(q:Pl)(o:Bool)(s:Sm):Pl:=
 if q.jl=false∧q.uY=false then(if gP s>0 then lu (mj q s) s else mj q s)
 else if q.jl=false∧rz s=true then gE (mj q s)
 else C_ (gw (mj q s) o) o s
theorem rn.begin(hb:U q.bw)(hl:U q.bn)(hs:mN s):rn (lu q s):=
 ⟨hb,by simp[lu],hl,hs.af,hs.del,hl,λ_=>by simp[lu],λ_ _=>by simp[lu]⟩
theorem rn.lV(h:rn q):rn (gE q):=⟨bh 0,h.n,h.bn,h.t0,h.d0,h.l0,λhh=>by simp[gE]at hh,λ_ hh=>by simp[gE]at hh⟩
theorem rn.add(h:rn q)(hs:mN s):rn (mj q s):=⟨h.bw,h.n,oT h.bn hs.bn,h.t0,h.d0,h.l0,h.nu,h.nm⟩
theorem Gc(h:rn q)(hs:mN s){r:Int}(hr:oF q s=some r):U r:=by
 unfold oF at hr;split at hr
 ·cases hr
 ·split at hr
  ·cases hr
  ·cases hr;exact yR (nA hs.del h.d0) (bh _) (nA hs.af h.t0)
theorem rn.got(h:rn q)(hs:mN s){r:Int}(hr:U r):rn (xu q s r):=by
 unfold xu;split
 ·exact⟨Xv h.bw hr,by simp,h.bn,h.t0,h.d0,h.l0,λ_=>by simp,λ_ _=>by simp⟩
 ·exact rn.begin hr h.bn hs
theorem rn.X4(h:rn q)(hs:mN s):rn (tG q s):=by
 unfold tG;split
 ·exact h
 ·rename_i r hr;exact h.got hs (Gc h hs hr)
theorem Wh(h:rn q)(hs:mN s)(hm:q.jl=false→q.uY=true):rn (C_ (gw q o) o s):=by
 obtain⟨jl,uY,bw,n,bn,t0,d0,l0⟩:=q;have h1:=h.n;have h2:=h.nu;have h3:=h.nm;dsimp only at h1 h2 h3 hm;cases o with
 |false=>
  show rn (C_ _ false s);unfold C_;simp only[gw,js,jt,false_and];split
  ·exact h
  ·split
   ·exact h.lV
   ·split
    ·exact h.X4 hs
    ·exact h
 |true=>
  unfold C_;simp only[gw,iF,true_and];split
  ·rename_i hu;have hu:jl=true:=hu;have:=h2 hu;split
   ·exact⟨bh 0,by simp,h.bn,h.t0,h.d0,h.l0,(λhh=>by simp[gE]at hh),(λ_ hh=>by simp[gE]at hh)⟩
   ·rename_i h48;exact⟨h.bw,(by dsimp only;omega),h.bn,h.t0,h.d0,h.l0,(λ_=>by dsimp only;omega),(λhh=>by dsimp only at hh;rw[hu]at hh;cases hh)⟩
  ·rename_i hu;have hu:jl=false:=by simpa using hu
   have:=h3 hu (hm hu);split
   ·exact⟨bh 0,(by simp[gE];omega),h.bn,h.t0,h.d0,h.l0,(λhh=>by simp[gE]at hh),(λ_ hh=>by simp[gE]at hh)⟩
   ·rename_i h16;have hk:rn ⟨jl,uY,bw,n+1,bn,t0,d0,l0⟩:=⟨h.bw,(by dsimp only;omega),h.bn,h.t0,h.d0,h.l0,(λhh=>by dsimp only at hh;rw[hu]at hh;cases hh),(λ_ _=>by dsimp only;omega)⟩;split
    ·exact hk.X4 hs
    ·exact hk
theorem rn.dE(h:rn q)(hs:mN s):rn (yn q o s):=by
 unfold yn;split
 ·split
  ·exact rn.begin h.bw (oT h.bn hs.bn) hs
  ·exact h.add hs
 ·rename_i h0;split
  ·exact(h.add hs).lV
  ·exact Wh (h.add hs) hs (λhu=>by
    have hu:q.jl=false:=hu;cases hm:q.uY with
    |false=>exact absurd ⟨hu,hm⟩ h0
    |true=>exact hm)
end gT

namespace fQ
open bK gT
structure Md where
 w:Wn
 r:Sv
 p:Pp
 c:Cy
 b:Pb
 q:Pl
 bs:Int
 mode:Int
 aY:Int
 cO:Int
 gM:Int
 ml:Bool
 first:Bool
 ki:Int
structure gp(m:Md):Prop where
 w:uV m.w
 r:Lp m.r
 p:WV m.p
 c:yq m.c
 b:Jp m.b
 q:rn m.q
 bs:100≤m.bs∧m.bs≤9000
 mode:0≤m.mode∧m.mode≤3
 aY:U m.aY
 cO:U m.cO
 gM:U m.gM
 ki:U m.ki
def zC(m:Md):Int:=if m.q.jl then m.q.bw else m.w.v0
def sk(m:Md)(g:Int):Int:=Cz (zC m) m.b.dz g
def fE(m:Md):Int:=if m.mode=0 then 739 else if m.mode=1 then 88 else if m.mode=2∧m.q.jl=false then cG m.c else 256
def jY(m:Md):Int:=if m.mode=2 then 512 else if m.mode=3 then 256 else 739
def jA(m:Md):Int:=4*m.bs
theorem gp.bw(h:gp m):U (zC m):=by
 unfold zC;split
 ·exact h.q.bw
 ·exact h.w.v0
theorem Zx(c):U (cG c):=by
 unfold cG;split
 ·exact bh _
 ·split<;>exact bh _
theorem Gb(m):U (fE m):=by
 unfold fE;split
 ·exact bh _
 ·split
  ·exact bh _
  ·split
   ·exact Zx _
   ·exact bh _
theorem Gd(m):U (jY m):=by
 unfold jY;split
 ·exact bh _
 ·split<;>exact bh _
theorem gp.Re(h:gp m):U m.bs:=by have:=h.bs;unfold U;omega
theorem gp.floor(h:gp m):U (jA m):=by have:=h.bs;unfold U jA;omega
def mK(s:Sm):Int:=qI (dV (gK s) (FO s)) 1000000000 (AH s)
def ff(m:Md)(s:Sm):Md:=if fD s=0∨AH s=0 then m else if rz s=false∨mK s≥m.w.v0 then{m with w:=AV m.w m.r.n (mK s)}else m
def iH(m:Md)(s:Sm):Md:=if m.mode=2∧m.q.jl=false then{m with c:=cU m.c (i_ s) m.b.dz (gP s) (kP s) (sk m 320) (sk m 256)}else m
abbrev kD(m:Md)(o:Bool)(s:Sm):Md:={m with p:=pU m.p o (rz s) m.w.v0}
abbrev eU(m:Md)(af:Int):Md:={m with mode:=2,c:=Ml af 2}
def ru(m:Md):Md:=if m.mode=0∧m.p.full=true then{m with mode:=1}else m
def tc(m:Md)(s:Sm):Md:=if m.mode=1∧m.b.dz>0∧kP s≤sk m 256 then eU m (i_ s)else m
abbrev gr(m:Md):Md:={m with cO:=if m.gM>m.cO then m.gM else m.cO,gM:=0}
abbrev A7(m:Md)(s:Sm)(o:Bool):(Bool×Bool)×Pb:=bU m.b (i_ s) (OI s) o (kP s) (jA m)
def iJ(m:Md)(r:Bool×Bool)(af:Int):Md:=
 if r.1 then{m with gM:=if m.cO>m.gM then m.cO else m.gM,mode:=3}
 else if r.2 then(if m.p.full then eU {gr m with mode:=0} af else{gr m with mode:=0})
 else m
def mr(m:Md)(s:Sm)(o:Bool):Md:=iJ {m with b:=(A7 m s o).2} (A7 m s o).1 (i_ s)
def Kd(m:Md):Int:=if 1>As (zC m) (fE m)then 1 else As (zC m) (fE m)
def dO(m:Md):Md:=if zC m=0 then m else if m.p.full=true∨Kd m>m.aY then{m with aY:=Kd m}else m
def kz(m:Md):Md:=if m.mode≠3 then gr {m with ml:=false,first:=false}else{m with ml:=false,first:=false}
def bt(m:Md)(s:Sm)(o:Bool):Md:=
 if gP s>0∧m.ml=false then{m with ml:=true,first:=true,ki:=bH (gK s) (kP s),gM:=if m.cO>m.gM then m.cO else m.gM}
 else if m.ml=true then(if gK s<m.ki then{m with first:=m.first&&!o}else kz {m with first:=m.first&&!o})
 else m
abbrev ym(m:Md)(s:Sm):Md:={m with cO:=if m.bs>dV m.cO (gP s)then m.bs else dV m.cO (gP s)}
def oA(m:Md)(tso:Int):Int:=Br (zC m) m.b.dz (jY m) tso m.bs
def tM(m:Md)(s:Sm)(tso:Int):Md:=
  if m.first then{m with cO:=if bH (kP s) (fD s)>m.cO then bH (kP s) (fD s)else m.cO}
  else if fD s>0 then
    (if m.p.full then{m with cO:=if oA m tso<bH m.cO (fD s)then oA m tso else bH m.cO (fD s)}
     else if m.cO<oA m tso∨gK s<10*m.bs then{m with cO:=bH m.cO (fD s)}else m)
  else m
abbrev D5(m:Md):Md:={m with cO:=if jA m>m.cO then jA m else m.cO}
def Ke(m:Md):Md:=if m.mode=3 then{m with cO:=jA m}else m
def eK(m:Md)(s:Sm)(tso:Int):Md:=Ke (D5 (tM (ym m s) s tso))
abbrev D4(m:Md)(s:Sm):Md:={m with r:=rU m.r s,q:=yn m.q (rB m.r s) s}
def Ra(m:Md)(o:Bool)(s:Sm):Md:=mr (tc (ru (kD (iH (ff m s) s) o s)) s) s o
def Ng(m:Md)(o:Bool)(s:Sm)(tso:Int):Md:=eK (bt (dO m) s o) s tso
def pC(m:Md)(s:Sm)(tso:Int):Md:=Ng (Ra (D4 m s) (rB m.r s) s) (rB m.r s) s tso
abbrev St:Type:=Int×Int×Int×Int×Int×Int×Int×Int×Bool×Bool
def GQ(m:Md):St:=(m.mode,m.c.ph,m.aY,m.cO,zC m,m.b.dz,fE m,m.r.n,m.p.full,m.q.jl)
theorem Bb[Decidable p]{a b:Int}(ha:U a)(hb:U b):U (if p then a else b):=by split<;>assumption
theorem gp.Rc(h:gp m)(hs:mN s):gp (ff m s):=by
 unfold ff;split
 ·exact h
 ·split
  ·exact{h with w:=h.w.AV h.r.n (yR (nA hs.del hs.pri) (bh _) hs.Xh)}
  ·exact h
theorem gp.XV(h:gp m)(hs:mN s):gp (iH m s):=by
 unfold iH;split
 ·exact{h with c:=h.c.cU hs.af}
 ·exact h
theorem gp.pipe(h:gp m):gp (kD m o s):={h with p:=h.p.pU h.w.v0}
theorem gp.Mo(h:gp m){af:Int}(hn:U af):gp (eU m af):={h with c:=yq.st hn,mode:=by simp[eU]}
theorem gp.m1(h:gp m):gp (ru m):=by
 unfold ru;split
 ·exact{h with mode:=by simp}
 ·exact h
theorem gp.m2(h:gp m)(hs:mN s):gp (tc m s):=by
 unfold tc;split
 ·exact h.Mo hs.af
 ·exact h
theorem gp.back(h:gp m):gp (gr m):={h with cO:=Bb h.gM h.cO,gM:=bh 0}
theorem gp.Wg{m:Md}(h:gp m){r:Bool×Bool}{af:Int}(hn:U af):gp (iJ m r af):=by
 unfold iJ;split
 ·exact{h with gM:=Bb h.cO h.gM,mode:=by simp}
 ·split
  ·have hb:gp {gr m with mode:=0}:={h.back with mode:=by simp};split
   ·exact hb.Mo hn
   ·exact hb
  ·exact h
theorem gp.look(h:gp m)(hs:mN s):gp (mr m s o):=by
 have:gp {m with b:=(A7 m s o).2}:={h with b:=h.b.bU hs.af hs.bX};exact this.Wg hs.af
theorem Zy(h:gp m):U (Kd m):=Bb (bh 1) (Lz h.bw (Gb m))
theorem gp.RA(h:gp m):gp (dO m):=by
 unfold dO;split
 ·exact h
 ·split
  ·exact{h with aY:=Zy h}
  ·exact h
theorem gp.recover(h:gp m)(hs:mN s):gp (bt m s o):=by
 unfold bt;split
 ·exact{h with ki:=oT hs.del hs.W8,gM:=Bb h.cO h.gM}
 ·split
  ·split
   ·exact{h with}
   ·unfold kz;have h2:gp {m with ml:=false,first:=false}:={h with};split
    ·exact h2.back
    ·exact h2
  ·exact h
theorem gp.w1(h:gp m)(hs:mN s):gp (ym m s):={h with cO:=Bb h.Re (nA h.cO hs.bn)}
theorem gp.tar(h:gp m){tso:Int}(ht:U tso):U (oA m tso):=Xy h.bw h.b.dz (Gd m) ht h.Re
theorem gp.w2(h:gp m)(hs:mN s){tso:Int}(ht:U tso):gp (tM m s tso):=by
 unfold tM;split
 ·exact{h with cO:=Bb (oT hs.W8 hs.Ek) h.cO}
 ·split
  ·split
   ·exact{h with cO:=Bb (h.tar ht) (oT h.cO hs.Ek)}
   ·split
    ·exact{h with cO:=oT h.cO hs.Ek}
    ·exact h
  ·exact h
theorem gp.w3(h:gp m):gp (D5 m):={h with cO:=Bb h.floor h.cO}
theorem gp.w4(h:gp m):gp (Ke m):=by
 unfold Ke;split
 ·exact{h with cO:=h.floor}
 ·exact h
theorem gp.kQ(h:gp m)(hs:mN s){tso:Int}(ht:U tso):gp (eK m s tso):=((h.w1 hs).w2 hs ht).w3.w4
theorem gp.u1(h:gp m)(hs:mN s):gp (D4 m s):={h with r:=h.r.rU hs,q:=h.q.dE hs}
theorem gp.dE(h:gp m)(hs:mN s){tso:Int}(ht:U tso):gp (pC m s tso):=
 (((((((h.u1 hs).Rc hs).XV hs).pipe.m1.m2 hs).look hs).RA.recover hs).kQ hs ht)
def nk(n:Int):Int:=if 9000<(if 100>n then 100 else n)then 9000 else(if 100>n then 100 else n)
abbrev mJ(n:Int):Md:={w:=⟨10,0,0,0,0,0,0,0⟩,r:=⟨0,0⟩,p:=⟨0,0,false⟩,c:=⟨0,0⟩,b:=⟨0,0,false,0,false⟩,q:=⟨false,false,0,0,0,0,0,0⟩,bs:=nk n,mode:=0,aY:=As (10*nk n*1000) 739,cO:=10*nk n,gM:=0,ml:=false,first:=false,ki:=0}
theorem IP(n:Int):100≤nk n∧nk n≤9000:=by unfold nk;split<;>split<;>omega
theorem gp.new(n:Int):gp (mJ n):=by
 have:=IP n;exact{w:=⟨bh 10,bh 0,bh 0,bh 0,bh 0,bh 0,bh 0,bh 0⟩,r:=⟨bh 0,bh 0⟩,p:=⟨bh 0,(by simp[mJ]),λ_=>by simp[mJ]⟩,c:=⟨(by simp[mJ]),bh 0⟩,b:=⟨bh 0,bh 0,bh 0⟩,q:=⟨bh 0,(by simp[mJ]),bh 0,bh 0,bh 0,bh 0,(λh=>by simp[mJ]at h),λ_ h=>by simp[mJ]at h⟩,bs:=this,mode:=(by simp[mJ]),aY:=Lz ⟨by omega,by omega⟩ (bh 739),cO:=⟨(by show 0≤10*nk n;omega),by show 10*nk n<_;omega⟩,gM:=bh 0,ki:=bh 0}
end fQ

namespace Tm
open bK gT fQ
structure oP(a b:Md):Prop where
 bs:b.bs=a.bs
 aY:b.aY=a.aY
theorem oP.trans(h:oP a b)(g:oP b c):oP a c:=⟨g.bs.trans h.bs,g.aY.trans h.aY⟩
theorem GN(m s):oP m (ff m s):=by
 unfold ff;repeat' split
 all_goals exact⟨rfl,rfl⟩
theorem Yb(m s):oP m (iH m s):=by unfold iH;split<;>exact⟨rfl,rfl⟩
theorem aak(m):oP m (ru m):=by unfold ru;split<;>exact⟨rfl,rfl⟩
theorem aal(m s):oP m (tc m s):=by unfold tc;split<;>exact⟨rfl,rfl⟩
theorem MX(m r)(af:Int):oP m (iJ m r af):=by
 unfold iJ;repeat' split
 all_goals exact⟨rfl,rfl⟩
theorem VZ(m s o):oP m (mr m s o):=(⟨rfl,rfl⟩:oP m {m with b:=(A7 m s o).2}).trans (MX _ _ _)
theorem MY(m s o):oP m (bt m s o):=by
 unfold bt kz;repeat' split
 all_goals exact⟨rfl,rfl⟩
theorem aam(m o s):oP m (Ra m o s):=by
 have a:oP (iH (ff m s) s) (kD (iH (ff m s) s) o s):=⟨rfl,rfl⟩;exact((GN m s).trans (Yb _ s)).trans (a.trans (((aak _).trans (aal _ s)).trans (VZ _ s o)))
theorem ND(m):(dO m).bs=m.bs:=by
 unfold dO;repeat' split
 all_goals rfl
end Tm

namespace Xi
open bK gT fQ Tm
structure Inv(m:Md):Prop where
 on:m.b.on=true↔m.mode=3
 full:m.mode=1∨m.mode=2→m.p.full=true
structure Tr(a b:Md):Prop where
 t0:a.mode≠0→a.mode≠3→b.mode≠0
 t2:a.mode=2→b.mode≠1
 t3:a.mode=3→b.mode≠1
 tf:a.p.full=true→b.p.full=true
 inv:Inv b
 n:b.r.n=a.r.n∨b.r.n=u64.wrap (a.r.n+1)
end Xi

namespace F5
open bK gT fQ Tm Xi
structure Bd(m:Md)(t:Int):Prop where
 cO:m.cO≤t
 gM:m.gM≤t
theorem BU{p:Prop}[Decidable p]{a b t:Int}(ha:a≤t)(hb:b≤t):(if p then a else b)≤t:=by split<;>assumption
theorem TC{t:Int}(h:Bd m t)(s:Sm):Bd (ff m s) t:=by unfold ff;(repeat' split)<;>exact⟨h.cO,h.gM⟩
theorem XC{t:Int}(h:Bd m t)(s:Sm):Bd (iH m s) t:=by unfold iH;split<;>exact⟨h.cO,h.gM⟩
theorem ZB{t:Int}(h:Bd m t):Bd (ru m) t:=by unfold ru;split<;>exact⟨h.cO,h.gM⟩
theorem ZC{t:Int}(h:Bd m t)(s:Sm):Bd (tc m s) t:=by unfold tc;split<;>exact⟨h.cO,h.gM⟩
theorem LF{t:Int}(h:Bd m t)(h0:0≤t)(r:Bool×Bool)(af:Int):Bd (iJ m r af) t:=by
 unfold iJ;split
 ·exact⟨h.cO,BU h.cO h.gM⟩
 ·split
  ·split
   ·exact⟨BU h.gM h.cO,h0⟩
   ·exact⟨BU h.gM h.cO,h0⟩
  ·exact h
theorem TB{t:Int}(h:Bd m t)(h0:0≤t)(s:Sm)(o:Bool):Bd (mr m s o) t:=by
 have:Bd {m with b:=(A7 m s o).2} t:=⟨h.cO,h.gM⟩;exact LF this h0 _ _
theorem TD{t:Int}(h:Bd m t):Bd (dO m) t:=by unfold dO;(repeat' split)<;>exact⟨h.cO,h.gM⟩
theorem XD{t:Int}(h:Bd m t)(h0:0≤t)(s:Sm)(o:Bool):Bd (bt m s o) t:=by
 unfold bt kz;split
 ·exact⟨h.cO,BU h.cO h.gM⟩
 ·split
  ·split
   ·exact⟨h.cO,h.gM⟩
   ·split
    ·exact⟨BU h.gM h.cO,h0⟩
    ·exact⟨h.cO,h.gM⟩
  ·exact h
theorem Tw{a b t:Int}(h:a≤t):bH a b≤bH t b:=by unfold bH;(repeat' split)<;>omega
theorem V4{t b:Int}(h:U t)(hb:U b):t≤bH t b:=by unfold U bH at*;split<;>omega
theorem sub_le{a b:Int}(h:U a)(hb:U b):dV a b≤a:=by unfold U dV at*;split<;>omega
def Pv(x t:Int)(s:Sm):Prop:=x≤bH t (fD s)∨x≤bH (kP s) (fD s)
theorem Ns[Decidable p]{a b t:Int}(ha:Pv a t s)(hb:Pv b t s):Pv (if p then a else b) t s:=by split<;>assumption
theorem YO{t:Int}(h:Bd m t)(hm:gp m)(ht:U t)(h4:4*m.bs≤t)(hs:mN s)(tso:Int):Pv (eK m s tso).cO t s∧(eK m s tso).gM≤t:=by
 have hmss:=hm.bs;have hv:Bd (ym m s) t:=⟨BU (by omega) (xy (sub_le hm.cO hs.bn) h.cO),h.gM⟩;have hvm:(ym m s).bs=m.bs:=rfl;unfold eK;generalize ym m s=v at*
 have tl:t≤bH t (fD s):=V4 ht hs.Ek;have vl:Pv v.cO t s:=.inl (xy hv.cO tl);have al:Pv (bH v.cO (fD s)) t s:=.inl (Tw hv.cO);have hx:Pv (tM v s tso).cO t s∧(tM v s tso).gM≤t∧(tM v s tso).bs=v.bs:=by
  unfold tM;split
  ·exact⟨Ns (.inr (ig _)) vl,hv.gM,rfl⟩
  ·split
   ·split
    ·refine⟨?_,hv.gM,rfl⟩;show Pv (if oA v tso<bH v.cO (fD s)then oA v tso else bH v.cO (fD s)) t s;split
     ·rename_i hlt;rcases al with a|a
      ·exact .inl (by omega)
      ·exact .inr (by omega)
     ·exact al
    ·split
     ·exact⟨al,hv.gM,rfl⟩
     ·exact⟨vl,hv.gM,rfl⟩
   ·exact⟨vl,hv.gM,rfl⟩
 generalize tM v s tso=x at*
 obtain⟨x1,x2,x3⟩:=hx;have fl:Pv (4*x.bs) t s:=.inl (by rw[x3,hvm];omega);unfold Ke;split
 ·exact⟨fl,x2⟩
 ·exact⟨Ns fl x1,x2⟩
theorem YK{t:Int}(h:Bd m t)(hm:gp m)(ht:U t)(h4:4*m.bs≤t)(hs:mN s)(tso:Int):Pv (pC m s tso).cO t s∧(pC m s tso).gM≤t:=by
 have b1:Bd (D4 m s) t:=⟨h.cO,h.gM⟩;have b2:=XC (TC b1 s) s;have b3:Bd (kD (iH (ff (D4 m s) s) s) (rB m.r s) s) t:=⟨b2.cO,b2.gM⟩;have b4:=XD (TD (TB (ZC (ZB b3) s) ht.1 s (rB m.r s))) ht.1 s (rB m.r s);have o4:gp (bt (dO (Ra (D4 m s) (rB m.r s) s)) s (rB m.r s)):=(((((((hm.u1 hs).Rc hs).XV hs).pipe.m1.m2 hs).look hs).RA.recover hs));have e:(bt (dO (Ra (D4 m s) (rB m.r s) s)) s (rB m.r s)).bs=m.bs:=by rw[(MY _ s _).bs,ND,(aam _ _ s).bs]
 exact YO (m:=bt (dO (Ra (D4 m s) (rB m.r s) s)) s (rB m.r s)) b4 o4 ht (by rw[e];exact h4) hs tso
end F5

namespace ad
open gT fQ
abbrev gy(v:Wn):List Lf:=[aC v.w,aC v.t0,aC v.v0,aC v.t1,aC v.v1,aC v.t2,aC v.v2,aC v.la]
abbrev jM(v:Sv):List Lf:=[aC v.n,aC v.nx]
abbrev jG(v:Pp):List Lf:=[aC v.dz,aJ v.n,a_ v.full]
abbrev ja(v:Cy):List Lf:=[aJ v.ph,aC v.lh]
abbrev jo(v:Pb):List Lf:=[aC v.dz,aC v.lh,a_ v.on,aC v.ki,a_ v.rd]
abbrev gx(v:Pl):List Lf:=[a_ v.jl,a_ v.uY,aC v.bw,aJ v.n,aC v.bn,aC v.t0,aC v.d0,aC v.l0]
abbrev ii(n1 n2 n3 n4 n5 n6:Nat)(v:Md):List Lf:=[.ptr (some ⟨n1,0⟩),.ptr (some ⟨n2,0⟩),.ptr (some ⟨n3,0⟩),.ptr (some ⟨n4,0⟩),.ptr (some ⟨n5,0⟩),.ptr (some ⟨n6,0⟩),aC v.bs,aJ v.mode,aC v.aY,aC v.cO,aC v.gM,a_ v.ml,a_ v.first,aC v.ki]
abbrev d_(v:Wn):List Lf:=[aC v.w,aC v.t0,aC v.t1,aC v.t2,aC v.v0,aC v.v1,aC v.v2,aC v.la,a_ false]
end ad
namespace yK
open gT fQ
structure Rm where
 m:Md
 set:Bool
 pJ:Int
 g:Int
end yK
namespace ad
open gT fQ
abbrev db(nw:Nat)(v:yK.Rm):List Lf:=[aC v.m.bs,.ptr (some ⟨nw,0⟩),aC v.m.r.n,aC v.m.r.nx,aC v.m.p.dz,aJ v.m.p.n,a_ v.m.p.full,aJ v.m.c.ph,aC v.m.c.lh,aC v.m.b.dz,aC v.m.b.lh,a_ v.m.b.on,a_ v.set,a_ v.m.b.rd,aC v.pJ,a_ v.m.q.jl,a_ v.m.q.uY,aC v.m.q.bw,aJ v.m.q.n,aC v.m.q.bn,aC v.m.q.t0,aC v.m.q.d0,aC v.m.q.l0,aJ v.m.mode,aC v.m.aY,aC v.m.cO,aC v.g,a_ v.m.ml,a_ v.m.first,aC v.m.ki,aC v.m.gM]
end ad

namespace rD
def dg(n:Int):List UInt8:=_root_.Go.Lib.decDigits n.toNat
def bA(l:List UInt8):ByteArray:=⟨l.toArray⟩
theorem fJ(a b):bA a++bA b=bA (a++b):=by
 apply ByteArray.ext;simp[bA,ByteArray.data_append]
theorem nQ(l):(bA l).size=l.length:=by
 show l.toArray.size=_;simp
abbrev Sg:=Int×Int×Int×Int×Bool
def KY(s:Sg):List UInt8:=dg s.1++[58]++dg s.2.1++[58]++dg s.2.2.1
def oI(sign:List UInt8)(l:List Sg):List UInt8:=l.flatMap λs=>sign++KY s
theorem FQ{sign:List UInt8}{l:List Sg}{i:Nat}{x:Sg}(h:l[i]?=some x):oI sign (l.take (i+1))=oI sign (l.take i)++(sign++KY x):=by unfold oI;rw[lC,h];simp
abbrev Ot:=List Sg×List Sg×Int
def Fe(o:Ot):List UInt8:=oI [32,43] o.1++(oI [32,45] o.2.1++(if o.2.2=0 then []else [32,64]++dg o.2.2))
def IJ(os:List Ot)(i:Nat)(e:Int):List UInt8:=dg e++((match os[i]? with
 |some o=>Fe o
 |none=>[])++[10])
def wI(os:List Ot)(es:List Int):Nat→List UInt8
 |0=>[]
 |n+1=>wI os es n++IJ os n (es.getD n 0)
def YJ(os:List Ot)(es:List Int):List UInt8:=wI os es es.length
theorem kM{n:Int}(h:n<18446744073709551616):(dg n).length≤20:=by
 unfold dg;rw[_root_.Go.Lib.decDigits_length];by_cases h1:1≤n.toNat
 ·have:=_root_.Go.Lib.numDigits_eq n.toNat h1 (by omega);split at this<;>omega
 ·have:n.toNat=0:=by omega
  rw[this,_root_.Go.Lib.nDigits_small (by decide)];decide
structure mN(s:Sg):Prop where
 k:s.1<9223372036854775808
 f:0≤s.2.1∧s.2.1<18446744073709551616
 n:s.2.2.1<9223372036854775808
theorem I8(h:mN s):(KY s).length≤62:=by
 have h1:=kM (n:=s.1) (by have:=h.k;omega);have h2:=kM h.f.2;have h3:=kM (n:=s.2.2.1) (by have:=h.n;omega);unfold KY;simp only[eQ,fq,iE];omega
theorem n_(hs:sign.length≤2):∀{l:List Sg},(∀s∈l,mN s)→(oI sign l).length≤64*l.length
 |[],_=>iW _
 |x::l,h=>by
  have h1:=I8 (h x (na ..));have h2:=n_ hs (l:=l) (λs hs=>h s (mz _ hs));have e:oI sign (x::l)=sign++KY x++oI sign l:=by unfold oI;simp
  rw[e];simp only[eQ,fq];omega
structure Su(o:Ot):Prop where
 a:∀s∈o.1,mN s
 b:∀s∈o.2.1,mN s
 w:0≤o.2.2∧o.2.2<18446744073709551616
 la:o.1.length≤100000
 lb:o.2.1.length≤100000
theorem Ff(h:Su o):(Fe o).length≤12800022:=by
 have h1:=n_ (sign:=[32,43]) (by decide) h.a;have h2:=n_ (sign:=[32,45]) (by decide) h.b;have h3:=kM h.w.2;have:=h.la;have:=h.lb;unfold Fe;simp only[eQ];split
 ·simp only[iE];omega
 ·simp only[eQ,fq,iE];omega
theorem Q9(h:∀o∈os,Su o)(i){e:Int}(he:e<18446744073709551616):(IJ os i e).length≤12800043:=by
 have h1:=kM he;unfold IJ;simp only[eQ,fq,iE];split
 ·rename_i o ho;have:=Ff (h o (jr ho));omega
 ·simp only[iE];omega
theorem wz(h:∀o∈os,Su o){es:List Int}(he:∀e∈es,e<18446744073709551616):∀n,(wI os es n).length≤12800043*n
 |0=>eM _
 |n+1=>by
  have h1:=wz h he n;have h2:=Q9 h n (e:=es.getD n 0) (by
   rw[lB];cases hh:es[n]? with
   |none=>show(0:Int)<_;decide
   |some x=>exact he x (jr hh))
  unfold wI;rw[eQ];omega
theorem O3{es:List Int}{e:Int}(h:es[i]?=some e):wI os es (i+1)=wI os es i++IJ os i e:=by
 show wI os es i++IJ os i (es.getD i 0)=_;rw[lB,h];rfl
end rD

end Go.X
