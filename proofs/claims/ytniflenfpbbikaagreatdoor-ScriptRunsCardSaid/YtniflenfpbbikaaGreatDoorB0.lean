/- Contracts. -/
import Derived.Lib.ItoaNum
import Derived.Test.YtniflenfpbbikaaGreatDoorK
set_option linter.all false
set_option autoImplicit true
set_option relaxedAutoImplicit true
namespace Go.X
open IntKind (u64 i64)
def lj{α:Type}(Q:α→α→Prop):List α→List α→Prop
 |[],[]=>True
 |x::xs,y::ys=>Q x y∧lj Q xs ys
 |_,_=>False
theorem vg{α:Type}{Q:α→α→Prop}:∀{xs ys:List α},lj Q xs ys→xs.length=ys.length
 |[],[],_=>rfl
 |[],_::_,h=>h.elim
 |_::_,[],h=>h.elim
 |x::xs,y::ys,h=>by simp[vg h.2]
theorem ym{α:Type}:∀(xs ys:List α),lj Eq xs ys↔xs=ys
 |[],[]=>by simp[lj]
 |[],_::_=>by simp[lj]
 |_::_,[]=>by simp[lj]
 |x::xs,y::ys=>by rw[lj,ym xs ys,List.cons.injEq]
abbrev KI:Ks:=[.int .i64]
abbrev KU:Ks:=[.int .u64]
abbrev KR:Ks:=[.int .u64,.int .u64]
abbrev KB:Ks:=[.bool]
theorem qI{α:Type}{l:List α}{i:Nat}{x:α}(h:l[i]?=some x):l.drop i=x::l.drop (i+1):=by
 obtain⟨hl,he⟩:=iy.1 h;rw[←he];exact xX hl
theorem qk:∀(n:Nat) (l:List Int),l.Nodup→(∀x∈l,0≤x∧x<(n:Int))→l.length≤n
 |0,l,_,h=>by
  cases l with
  |nil=>simp
  |cons x l=>have:=h x (by simp);omega
 |n+1,l,hd,h=>by
  have h1:=qk n (l.filter (λx=>!decide (x=(n:Int)))) (hd.filter _) (λx hx=>by
   rw[ud]at hx;have:=h x hx.1;have h2:¬x=(n:Int):=by simpa using hx.2
   omega)
  have h3:l.length≤(l.filter (λx=>!decide (x=(n:Int)))).length+1:=by
   clear h1 h
   induction l with
   |nil=>simp
   |cons x l ih=>
    rw[lD]at hd;by_cases hx:x=(n:Int)
    ·have:l.filter (λx=>!decide (x=(n:Int)))=l:=by
      rw[Aw];intro y hy;have:y≠x:=λe=>hd.1 (e▸hy);simp;omega
     rw[Am,ay (by simp[hx]),this];simp
    ·rw[Am,aG (by simp[hx])];have:=ih hd.2;simp only[gg];omega
  omega
section
variable {w0 w:World} {S0 R0:Nat→Prop} {F G:SP}
theorem aA{p:Pt}{ls:List Lf}{A:WP}{L:List Lf}(h:au w0 S0 R0 w F)(b:Nat)(L':List Lf)[t:mX b F L G](hp:p.b=b)(hx:Nat.ble (p.o+ls.length) L.length=true)(e:dE L p.o ls=L')
  (k:∀w',au w0 S0 R0 w' (X.af b L'^G)→A w'):st p ls A w:=by
 subst hp;subst e;exact bh h hx k
end
theorem least{α:Type}(P:α→Prop)(μ:α→Nat)(h:∃a,P a):∃n,(∃a,P a∧μ a=n)∧∀a,P a→n≤μ a:=by
 obtain⟨a,ha⟩:=h;have key:∀k a,P a→μ a≤k→∃n,(∃a,P a∧μ a=n)∧∀a,P a→n≤μ a:=by
  intro k
  induction k with
  |zero=>intro a ha hk;exact⟨0,⟨a,ha,by omega⟩,λ_ _=>gJ _⟩
  |succ k ih=>
   intro a ha hk;by_cases hc:∃c,P c∧μ c<μ a
   ·obtain⟨c,hc,hlt⟩:=hc;exact ih c hc (by omega)
   ·exact⟨μ a,⟨a,ha,rfl⟩,λc hc'=>Nat.le_of_not_lt λhlt=>hc ⟨c,hc',hlt⟩⟩
 exact key _ a ha (eE _)
open Classical in
theorem fY{w0 w:World}{S0 R0:Nat→Prop}{α:Type}{cs:List CK}{x₀:Ks.T cs}{B:(Ks.T cs→WP)→Ks.T cs→WP}(I:Ks.T cs→α→SP)(φ:Ks.T cs→α→Prop)(μ:Ks.T cs→α→Nat)(a₀:α)(h:au w0 S0 R0 w (I x₀ a₀))(h0:φ x₀ a₀)
  (hr:∀(K:Ks.T cs→WP) x a w,φ x a→au w0 S0 R0 w (I x a)→(∀y c w',φ y c→au w0 S0 R0 w' (I y c)→μ y c<μ x a→K y w')→B K x w):loop cs x₀ B w:=by
 refine⟨λx w=>∃a,φ x a∧au w0 S0 R0 w (I x a),λx w=>if h:∃a,φ x a∧au w0 S0 R0 w (I x a)then Classical.choose (least _ (μ x) h)else 0,⟨a₀,h0,h⟩,?_⟩;intro x w hx;have hs:=Of (least _ (μ x) hx);obtain⟨⟨a,⟨hp,ha⟩,hn⟩,_⟩:=hs;refine hr _ x a w hp ha λy c w' hy ho hlt=>⟨⟨c,hy,ho⟩,?_⟩;have hx':∃c,φ y c∧au w0 S0 R0 w' (I y c):=⟨c,hy,ho⟩;have e1:(if h:∃a,φ y a∧au w0 S0 R0 w' (I y a)then Classical.choose (least _ (μ y) h)else 0)=Classical.choose (least _ (μ y) hx'):=dif_pos hx';have e2:(if h:∃a,φ x a∧au w0 S0 R0 w (I x a)then Classical.choose (least _ (μ x) h)else 0)=Classical.choose (least _ (μ x) hx):=dif_pos hx;show(if h:∃a,φ y a∧au w0 S0 R0 w' (I y a)then Classical.choose (least _ (μ y) h)else 0)<(if h:∃a,φ x a∧au w0 S0 R0 w (I x a)then Classical.choose (least _ (μ x) h)else 0);rw[e1,e2,←hn];have:=(Of (least _ (μ y) hx')).2 c ⟨hy,ho⟩;omega

namespace bH
abbrev M:Int:=18446744073709551616
def U(x:Int):Prop:=0≤x∧x<18446744073709551616
def bJ(a b:Int):Int:=if a+b<18446744073709551616 then a+b else 18446744073709551615
def dX(a b:Int):Int:=if a<b then 0 else a-b
def rE(a b:Int):Int:=if a*b<18446744073709551616 then a*b else 18446744073709551615
def qN(a b c:Int):Int:=if a*b=0 then 0 else if a*b<c*18446744073709551616 then a*b/c else 18446744073709551615
theorem wm(n:Int):u64.wrap n=n%18446744073709551616:=by simp[IntKind.wrap,IntKind.bits,IntKind.signed]
theorem ur(n:Int):U (u64.wrap n):=Px n
theorem oT{a b:Int}(ha:U a)(hb:U b):U (bJ a b):=by unfold U bJ at*;split<;>omega
theorem nB{a b:Int}(ha:U a)(hb:U b):U (dX a b):=by unfold U dX at*;split<;>omega
theorem Eo{a b:Int}(ha:U a)(hb:U b):U (rE a b):=by
 have:=uW ha.1 hb.1;unfold rE;split
 ·exact⟨this,by assumption⟩
 ·unfold U;omega
theorem yS{a b c:Int}(ha:U a)(hb:U b)(hc:U c):U (qN a b c):=by
 have h:=uW ha.1 hb.1;unfold qN;split
 ·unfold U;omega
 ·split
  ·rename_i h1;refine⟨Dy h hc.1,?_⟩;have hc0:0<c:=by rcases Int.lt_or_eq_of_le hc.1 with h2|h2;exact h2;rw[←h2]at h1;omega
   exact Og hc0 (by rw[xo 18446744073709551616];exact h1)
  ·unfold U;omega
theorem XF{a:Int}(h:U a):(BitVec.ofInt 64 a).toNat=a.toNat:=by
 unfold U at h;rw[BitVec.toNat_ofInt];simp;omega
theorem Xz(a:Int):((BitVec.ofInt u64.bits a&&&BitVec.ofInt u64.bits 4294967295).toNat:Int)=a%4294967296:=by
 show((BitVec.ofInt 64 a&&&BitVec.ofInt 64 4294967295).toNat:Int)=_;rw[Ho,show(BitVec.ofInt 64 4294967295).toNat=2^32-1 by decide,NY,BitVec.toNat_ofInt];simp;omega
theorem or1{a b:Int}(i:Nat)(k:Int)(hk:0≤k)(ha:a=k*(2^i:Nat))(h1:U a)(hb:0≤b)(hb2:b<(2^i:Nat))(h2:U b):((BitVec.ofInt u64.bits a|||BitVec.ofInt u64.bits b).toNat:Int)=a+b:=by
 show((BitVec.ofInt 64 a|||BitVec.ofInt 64 b).toNat:Int)=_;rw[BitVec.toNat_or,XF h1,XF h2];obtain⟨k,rfl⟩:=N_ hk;obtain⟨b,rfl⟩:=N_ hb;have e:a=((2^i*k:Nat):Int):=by rw[ha,Ar];push_cast;rfl
 rw[e,eX,eX,←Nat.two_pow_add_eq_or_of_lt (by omega)]
 push_cast;rfl
theorem ML(a:Int):a.fdiv (2^min (32:Int).toNat u64.bits)=a/4294967296:=by
 show a.fdiv 4294967296=_;exact N2 a (by decide)
theorem GG(a:Int):a.fdiv (2^min (63:Int).toNat u64.bits)=a/9223372036854775808:=by
 show a.fdiv 9223372036854775808=_;exact N2 a (by decide)
theorem NE{r l:Int}(hl:U l):u64.wrap (((BitVec.ofInt u64.bits (u64.wrap (r*2^min (1:Int).toNat u64.bits))|||BitVec.ofInt u64.bits (l.fdiv (2^min (63:Int).toNat u64.bits))).toNat:Nat):Int)=(2*r)%18446744073709551616+l/9223372036854775808:=by
 rw[GG];have e:u64.wrap (r*2^min (1:Int).toNat u64.bits)=(2*r)%18446744073709551616:=by
  show u64.wrap (r*2)=_;rw[wm,xo]
 rw[e];unfold U at hl;rw[or1 1 ((2*r)%18446744073709551616/2) (by omega) (by show _=_*(2:Int);omega) (by unfold U;omega) (by omega) (by show _<(2:Int);omega) (by unfold U;omega),wm];omega
theorem NF(q:Int):u64.wrap (((BitVec.ofInt u64.bits (u64.wrap (q*2^min (1:Int).toNat u64.bits))|||BitVec.ofInt u64.bits (1:Int)).toNat:Nat):Int)=(2*q)%18446744073709551616+1:=by
 have e:u64.wrap (q*2^min (1:Int).toNat u64.bits)=(2*q)%18446744073709551616:=by
  show u64.wrap (q*2)=_;rw[wm,xo]
 rw[e,or1 1 ((2*q)%18446744073709551616/2) (by omega) (by show _=_*(2:Int);omega) (by unfold U;omega) (by omega) (by show _<(2:Int);omega) (by unfold U;omega),wm];omega
theorem R9(q:Int):u64.wrap (q*2^min (1:Int).toNat u64.bits)=(2*q)%18446744073709551616:=by
 show u64.wrap (q*2)=_;rw[wm,xo]
structure Dv(N c q r l:Int)(i:Nat):Prop where
 step:(q*c+r)*2^(64-i)+l/2^i=N
 r0:0≤r
 rc:r<c
 q0:0≤q
 ql:q<2^i
 ul:U l
 ld:l%2^i=0
 il:i≤64
theorem Dv.start{h l c:Int}(hl:U l)(hh:0≤h)(hc:h<c):Dv (h*18446744073709551616+l) c 0 h l 0:=by
 refine⟨?_,hh,hc,by omega,by omega,hl,by omega,by omega⟩;simp
theorem Dv.last{N c q r l:Int}(d:Dv N c q r l 64)(hc:0<c):q=N/c:=by
 have h:=d.step;have hl:=d.ul;unfold U at hl;have:l/2^64=0:=Oc hl.1 hl.2;simp at h;rw[show(18446744073709551616:Int)=2^64 by decide,this]at h;have h:=h.symm;rw[h,Int.add_zero,Int.add_comm,Int.add_mul_ediv_right _ _ (by omega),Oc d.r0 d.rc];omega
theorem Dv.next{N c q r l:Int}(d:Dv N c q r l i)(hi:i<64):(2*r+l/9223372036854775808<c→Dv N c (2*q) (2*r+l/9223372036854775808) (2*l%18446744073709551616) (i+1))∧
  (c≤2*r+l/9223372036854775808→Dv N c (2*q+1) (2*r+l/9223372036854775808-c) (2*l%18446744073709551616) (i+1)):=by
 obtain⟨h1,h2,h3,h4,h5,h6,h7,h8⟩:=d;unfold U at h6;obtain⟨m,hm⟩:∃m:Int,l=m*2^i:=⟨l/2^i,(Int.ediv_mul_cancel (Int.dvd_of_emod_eq_zero h7)).symm⟩;have p:(0:Int)<2^i:=Int.pow_pos (by decide);have e1:l/2^i=m:=by rw[hm];exact Int.mul_ediv_cancel _ (by omega)
 obtain⟨b,hb⟩:∃b,l/9223372036854775808=b:=⟨_,rfl⟩;have hb01:b=0∨b=1:=by omega
 have e2:2*l%18446744073709551616=2*l-b*18446744073709551616:=by omega
 have hp:(2:Int)^(64-i)=2*2^(64-(i+1)):=by rw[show 64-i=(64-(i+1))+1 by omega,Int.pow_succ];omega
 have hpp:(2:Int)^(64-(i+1))*2^(i+1)=18446744073709551616:=by rw[←Int.pow_add,show 64-(i+1)+(i+1)=64 by omega];decide
 have hp1:(2:Int)^(i+1)=2*2^i:=by rw[Int.pow_succ];omega
 obtain⟨P,hP⟩:∃P:Int,(2:Int)^(64-(i+1))=P:=⟨_,rfl⟩;obtain⟨Q,hQ⟩:∃Q:Int,(2:Int)^i=Q:=⟨_,rfl⟩;rw[hp1,hQ,hP]at hpp;rw[hQ]at hm p e1 h5 h1;rw[hP]at hp;have e3:2*l-b*18446744073709551616=(m-b*P)*(2*Q):=by
  rw[←hpp,hm,Int.sub_mul];have:2*(m*Q)=m*(2*Q):=by rw[Int.mul_left_comm]
  rw[this,v_]
 have e4:(2*l%18446744073709551616)/2^(i+1)=m-b*P:=by rw[e2,e3,hp1,hQ];exact Int.mul_ediv_cancel _ (by omega)
 have e5:(2*l%18446744073709551616)%2^(i+1)=0:=by rw[e2,e3,hp1,hQ];exact Int.mul_emod_left _ _
 have hU:U (2*l%18446744073709551616):=by unfold U;omega
 rw[hb];rw[hp,e1]at h1;have key:(2*(q*c+r)+b)*P+(m-b*P)=N:=by
  rw[←h1,Int.add_mul];have:2*(q*c+r)*P=(q*c+r)*(2*P):=by rw[xo 2,v_]
  omega
 refine⟨λh=>⟨?_,by omega,h,by omega,by rw[hp1,hQ];omega,hU,e5,by omega⟩,λh=>⟨?_,by omega,by omega,by omega,by rw[hp1,hQ];omega,hU,e5,by omega⟩⟩
 ·rw[e4,hP,←key];have:2*q*c+(2*r+b)=2*(q*c+r)+b:=by rw[v_];omega
  rw[this]
 ·rw[e4,hP,←key];have:(2*q+1)*c+(2*r+b-c)=2*(q*c+r)+b:=by rw[Int.add_mul,v_];omega
  rw[this]
def AA(bw g:Int):Int:=qN bw g 256
def CF(bw bT g:Int):Int:=qN (qN bw bT 1000000000) g 256
def BA(bw bT g tso bt:Int):Int:=if bT=0 then rE 10 bt else if rE 4 bt>bJ (CF bw bT g) (rE 3 tso)then rE 4 bt else bJ (CF bw bT g) (rE 3 tso)
theorem bm(x:Int)(h:0≤x∧x<18446744073709551616:=by omega):U x:=h
theorem LL{bw g:Int}(hb:U bw)(hg:U g):U (AA bw g):=yS hb hg (bm 256)
theorem LK{bw bT g:Int}(hb:U bw)(hq:U bT)(hg:U g):U (CF bw bT g):=yS (yS hb hq (bm _)) hg (bm 256)
theorem Xx{bw bT g tso bt:Int}(hb:U bw)(hq:U bT)(hg:U g)(ht:U tso)(hm:U bt):U (BA bw bT g tso bt):=by
 unfold BA;split
 ·exact Eo (bm _) hm
 ·split
  ·exact Eo (bm _) hm
  ·exact oT (LK hb hq hg) (Eo (bm _) ht)
end bH

namespace Wf
open bH
theorem u{n:Int}(h:(Lit.int .u64 n).wf=true):U n:=by
 have h:u64.min≤n∧n≤u64.max:=by simpa [Lit.wf]using h
 have e1:u64.min=0:=by decide
 have e2:u64.max=18446744073709551615:=by decide
 unfold U;omega
theorem i{n:Int}(h:(Lit.int .i64 n).wf=true):-9223372036854775808≤n∧n<9223372036854775808:=by
 have h:i64.min≤n∧n≤i64.max:=by simpa [Lit.wf]using h
 have e1:i64.min=-9223372036854775808:=by decide
 have e2:i64.max=9223372036854775807:=by decide
 omega
end Wf

namespace Tree
abbrev Nd:=Int×Int×Int×Int×Int
abbrev Key:=Int×Int
def lH(a b:Key):Bool:=decide (a.1<b.1)||(decide (a.1=b.1)&&decide (a.2<b.2))
theorem qK{a b:Key}:lH a b=true↔a.1<b.1∨(a.1=b.1∧a.2<b.2):=by simp[lH]
theorem tc(a:Key):lH a a=false:=by
 cases h:lH a a with
 |false=>rfl
 |true=>rw[qK]at h;omega
theorem w8{a b c:Key}(h:lH a b=true)(k:lH b c=true):lH a c=true:=by rw[qK]at*;omega
theorem E1{a b:Key}(h:lH a b=true):lH b a=false:=by
 cases h2:lH b a with
 |false=>rfl
 |true=>rw[qK]at*;omega
theorem IK{a b:Key}(h:a.1=b.1)(k:a.2=b.2):a=b:=by cases a;cases b;simp at h k;simp[h,k]
theorem IP{a b:Key}(h:lH a b=false)(hne:a≠b):lH b a=true:=by
 rw[qK];have h2:¬(a.1<b.1∨(a.1=b.1∧a.2<b.2)):=by rw[←qK,h];simp
 by_cases h1:a.1=b.1
 ·by_cases h3:a.2=b.2
  ·exact absurd (IK h1 h3) hne
  ·omega
 ·omega
inductive Tr where
 |e
 |n (l:Tr) (i:Nat) (k:Key) (r:Tr)
namespace Tr
def rt:Tr→Int
 |e=>-1
 |n _ i _ _=>i
def ht:Tr→Int
 |e=>0
 |n l _ _ r=>max l.ht r.ht+1
def cJ:Tr→List Nat
 |e=>[]
 |n l i _ r=>l.cJ++i::r.cJ
def ino:Tr→List Key
 |e=>[]
 |n l _ k r=>l.ino++k::r.ino
def pP:Tr→Prop
 |e=>True
 |n l _ _ r=>l.pP∧r.pP∧l.ht≤r.ht+1∧r.ht≤l.ht+1
theorem xR:∀t:Tr,0≤t.ht
 |e=>by simp[ht]
 |n l _ _ r=>by have:=xR l;simp only[ht];omega
theorem CY{t:Tr}(h:0<t.ht):∃l i k r,t=n l i k r:=by
 cases t with
 |e=>simp[ht]at h
 |n l i k r=>exact⟨_,_,_,_,rfl⟩
theorem OL{t:Tr}{i:Nat}(h:t.rt=(i:Int)):i∈t.cJ:=by
 cases t with
 |e=>simp only[rt]at h;omega
 |n l j k r=>
  have h:(j:Int)=i:=h;have h:j=i:=by omega
  simp[cJ,h]
theorem C6:∀t:Tr,t.cJ.length=t.ino.length
 |e=>rfl
 |n l i k r=>by simp[cJ,ino,C6 l,C6 r]
end Tr
open Tr
def iH(l:List Nd):Tr→Prop
 |e=>True
 |n L i k R=>l[i]?=some (k.1,k.2,L.rt,R.rt,max L.ht R.ht+1)∧iH l L∧iH l R
theorem iH.frame{l l':List Nd}:∀{t:Tr},iH l t→(∀j∈t.cJ,l'[j]?=l[j]?)→iH l' t
 |e,_,_=>trivial
 |n L i k R,⟨h1,h2,h3⟩,hf=>⟨by rw[hf i (by simp[cJ])];exact h1,h2.frame λj hj=>hf j (by simp[cJ,hj]),h3.frame λj hj=>hf j (by simp[cJ,hj])⟩
theorem iH.lt{l:List Nd}:∀{t:Tr},iH l t→∀j∈t.cJ,j<l.length
 |e,_,_,hj=>by simp[cJ]at hj
 |n L i k R,⟨h1,h2,h3⟩,j,hj=>by
  simp only[cJ,eQ,ec]at hj;rcases hj with hj|rfl|hj
  ·exact h2.lt j hj
  ·exact(iy.1 h1).1
  ·exact h3.lt j hj
def nth(l:List Nd)(i:Int):Nd:=l.getD i.toNat (0,0,0,0,0)
abbrev lt(l:List Nd)(i:Int):Int:=(nth l i).2.2.1
abbrev bT(l:List Nd)(i:Int):Int:=(nth l i).2.2.2.1
def Bb(l:List Nd)(i:Int):Int:=if i=-1 then 0 else(nth l i).2.2.2.2
def bk(l:List Nd)(i:Int):List Nd:=l.set i.toNat ((nth l i).1,(nth l i).2.1,(nth l i).2.2.1,(nth l i).2.2.2.1,max (Bb l (lt l i)) (Bb l (bT l i))+1)
def cX(l:List Nd)(i v:Int):List Nd:=l.set i.toNat ((nth l i).1,(nth l i).2.1,v,(nth l i).2.2.2.1,(nth l i).2.2.2.2)
def cY(l:List Nd)(i v:Int):List Nd:=l.set i.toNat ((nth l i).1,(nth l i).2.1,(nth l i).2.2.1,v,(nth l i).2.2.2.2)
def dm(l:List Nd)(i:Int):List Nd×Int:=(bk (bk (cX (cY l i (lt l (bT l i))) (bT l i) i) i) (bT l i),bT l i)
def dx(l:List Nd)(i:Int):List Nd×Int:=(bk (bk (cY (cX l i (bT l (lt l i))) (lt l i) i) i) (lt l i),lt l i)
def iM(l:List Nd)(i:Int):Int:=Bb l (lt l i)-Bb l (bT l i)
def fW(l:List Nd)(i:Int):List Nd×Int:=
 if iM (bk l i) i>1 then
  dx (if iM (bk l i) (lt (bk l i) i)<0 then cX (dm (bk l i) (lt (bk l i) i)).1 i (dm (bk l i) (lt (bk l i) i)).2 else bk l i) i
 else if iM (bk l i) i< -1 then
  dm (if iM (bk l i) (bT (bk l i) i)>0 then cY (dx (bk l i) (bT (bk l i) i)).1 i (dx (bk l i) (bT (bk l i) i)).2 else bk l i) i
 else(bk l i,i)
theorem gG{l:List Nd}{i:Nat}{x:Nd}(h:l[i]?=some x):nth l (i:Int)=x:=by simp[nth,nJ,h]
theorem se{l:List Nd}{t:Tr}(h:iH l t):Bb l t.rt=t.ht:=by
 cases t with
 |e=>simp[Bb,rt,ht]
 |n L i k R=>
  have e:(i:Int)≠-1:=by omega
  simp only[Bb,rt,ay e,gG h.1,ht]
theorem H0{l:List Nd}{i:Nat}{x:Nd}(y:Nd)(h:l[i]?=some x):(l.set i y)[i]?=some y:=by rw[sD (iy.1 h).1]
theorem vP{l:List Nd}{i:Nat}{k:Key}{L R:Tr}{h0:Int}(h:l[i]?=some (k.1,k.2,L.rt,R.rt,h0))(hL:iH l L)(hR:iH l R):(bk l i)[i]?=some (k.1,k.2,L.rt,R.rt,max L.ht R.ht+1):=by
 have e1:lt l (i:Int)=L.rt:=by rw[lt,gG h]
 have e2:bT l (i:Int)=R.rt:=by rw[bT,gG h]
 simp only[bk,gG h,e1,e2,se hL,se hR,eX];exact H0 _ h
theorem ia{l:List Nd}{i j:Nat}(h:j≠i):(bk l i)[j]?=l[j]?:=by
 simp only[bk,eX];exact xZ (mF h)
theorem wo{l:List Nd}{i:Nat}{x:Nd}(v:Int)(h:l[i]?=some x):(cX l i v)[i]?=some (x.1,x.2.1,v,x.2.2.2.1,x.2.2.2.2):=by simp only[cX,gG h,eX];exact H0 _ h
theorem kf{l:List Nd}{i j:Nat}{v:Int}(h:j≠i):(cX l i v)[j]?=l[j]?:=by simp only[cX,eX];exact xZ (mF h)
theorem wq{l:List Nd}{i:Nat}{x:Nd}(v:Int)(h:l[i]?=some x):(cY l i v)[i]?=some (x.1,x.2.1,x.2.2.1,v,x.2.2.2.2):=by simp only[cY,gG h,eX];exact H0 _ h
theorem kg{l:List Nd}{i j:Nat}{v:Int}(h:j≠i):(cY l i v)[j]?=l[j]?:=by simp only[cY,eX];exact xZ (mF h)
theorem gE(l:List Nd)(i:Int):(bk l i).length=l.length:=by simp[bk]
theorem cT(l:List Nd)(i v:Int):(cX l i v).length=l.length:=by simp[cX]
theorem cV(l:List Nd)(i v:Int):(cY l i v).length=l.length:=by simp[cY]
theorem tH(l:List Nd)(i:Int):(dm l i).1.length=l.length:=by simp[dm,gE,cT,cV]
theorem tI(l:List Nd)(i:Int):(dx l i).1.length=l.length:=by simp[dx,gE,cT,cV]
theorem qc(l:List Nd)(i:Int):(fW l i).1.length=l.length:=by
 unfold fW;split
 ·rw[tI];split<;>simp[cT,tH,gE]
 ·split
  ·rw[tH];split<;>simp[cV,tI,gE]
  ·exact gE _ _
theorem xB{l:List Nd}{A B C:Tr}{i j:Nat}{k m:Key}{h0 h1:Int}(hi:l[i]?=some (k.1,k.2,A.rt,(j:Int),h0))(hj:l[j]?=some (m.1,m.2,B.rt,C.rt,h1))(hA:iH l A)(hB:iH l B)(hC:iH l C)
  (hd:(A.cJ++i::(B.cJ++j::C.cJ)).Nodup):(dm l i).2=j∧iH (dm l i).1 (n (n A i k B) j m C)∧∀p,p≠i→p≠j→(dm l i).1[p]?=l[p]?:=by
 simp only[ka,lD,eQ,ec,qR]at hd;obtain⟨dA,⟨⟨iB,ij,iC⟩,dB,⟨jC,dC⟩,dBC⟩,dA'⟩:=hd;have er:bT l (i:Int)=j:=by rw[bT,gG hi]
 have e1:lt l (j:Int)=B.rt:=by rw[lt,gG hj]
 have a1:=wq B.rt hi;have a2:(cY l i B.rt)[j]?=_:=(kg (mF ij)).trans hj;have b2:=wo (i:Int) a2;have b1:(cX (cY l i B.rt) j i)[i]?=_:=(kf ij).trans a1;have fA:∀p∈A.cJ,p≠i∧p≠j:=λp hp=>⟨λe=>dA' p hp i (.inl rfl) e,λe=>dA' p hp j (.inr (.inr (.inl rfl))) e⟩;have fB:∀p∈B.cJ,p≠i∧p≠j:=λp hp=>⟨λe=>iB (e▸hp),λe=>dBC p hp j (.inl rfl) e⟩;have fC:∀p∈C.cJ,p≠i∧p≠j:=λp hp=>⟨λe=>iC (e▸hp),λe=>jC (e▸hp)⟩;have fr:∀p,p≠i→p≠j→(cX (cY l i B.rt) j i)[p]?=l[p]?:=λp h1 h2=>(kf h2).trans (kg h1);have gA:iH (cX (cY l i B.rt) j i) A:=hA.frame λp hp=>fr p (fA p hp).1 (fA p hp).2;have gB:iH (cX (cY l i B.rt) j i) B:=hB.frame λp hp=>fr p (fB p hp).1 (fB p hp).2;have gC:iH (cX (cY l i B.rt) j i) C:=hC.frame λp hp=>fr p (fC p hp).1 (fC p hp).2;have c1:=vP b1 gA gB;have kA:iH (bk (cX (cY l i B.rt) j i) i) A:=gA.frame λp hp=>ia (fA p hp).1;have kB:iH (bk (cX (cY l i B.rt) j i) i) B:=gB.frame λp hp=>ia (fB p hp).1;have kC:iH (bk (cX (cY l i B.rt) j i) i) C:=gC.frame λp hp=>ia (fC p hp).1;have kI:iH (bk (cX (cY l i B.rt) j i) i) (n A i k B):=⟨c1,kA,kB⟩;have c2:(bk (cX (cY l i B.rt) j i) i)[j]?=some (m.1,m.2,(n A i k B).rt,C.rt,h1):=(ia (mF ij)).trans b2;have d:=vP c2 kI kC;have et:dm l i=(bk (bk (cX (cY l i B.rt) j i) i) j,(j:Int)):=by simp only[dm,er,e1]
 rw[et];have fI:∀p∈(n A i k B).cJ,p≠j:=λp hp=>by
  simp only[cJ,eQ,ec]at hp;rcases hp with hp|rfl|hp
  ·exact(fA p hp).2
  ·exact ij
  ·exact(fB p hp).2
 exact⟨rfl,⟨d,kI.frame λp hp=>ia (fI p hp),kC.frame λp hp=>ia (fC p hp).2⟩,λp h1 h2=>(ia h2).trans ((ia h1).trans (fr p h1 h2))⟩
theorem xD{l:List Nd}{A B C:Tr}{i j:Nat}{k m:Key}{h0 h1:Int}(hi:l[i]?=some (k.1,k.2,(j:Int),C.rt,h0))(hj:l[j]?=some (m.1,m.2,A.rt,B.rt,h1))(hA:iH l A)(hB:iH l B)(hC:iH l C)
  (hd:((A.cJ++j::B.cJ)++i::C.cJ).Nodup):(dx l i).2=j∧iH (dx l i).1 (n A j m (n B i k C))∧∀p,p≠i→p≠j→(dx l i).1[p]?=l[p]?:=by
 simp only[ka,lD,eQ,ec]at hd;obtain⟨⟨dA,⟨jB,dB⟩,dAB⟩,⟨iC,dC⟩,dd⟩:=hd;have ij:i≠j:=λe=>dd j (.inr (.inl rfl)) i (.inl rfl) e.symm;have er:lt l (i:Int)=j:=by rw[lt,gG hi]
 have e1:bT l (j:Int)=B.rt:=by rw[bT,gG hj]
 have a1:=wo B.rt hi;have a2:(cX l i B.rt)[j]?=_:=(kf (mF ij)).trans hj;have b2:=wq (i:Int) a2;have b1:(cY (cX l i B.rt) j i)[i]?=_:=(kg ij).trans a1;have fA:∀p∈A.cJ,p≠i∧p≠j:=λp hp=>⟨λe=>dd p (.inl hp) i (.inl rfl) e,λe=>dAB p hp j (.inl rfl) e⟩;have fB:∀p∈B.cJ,p≠i∧p≠j:=λp hp=>⟨λe=>dd p (.inr (.inr hp)) i (.inl rfl) e,λe=>jB (e▸hp)⟩;have fC:∀p∈C.cJ,p≠i∧p≠j:=λp hp=>⟨λe=>iC (e▸hp),λe=>dd j (.inr (.inl rfl)) p (.inr hp) e.symm⟩;have fr:∀p,p≠i→p≠j→(cY (cX l i B.rt) j i)[p]?=l[p]?:=λp h1 h2=>(kg h2).trans (kf h1);have gA:iH (cY (cX l i B.rt) j i) A:=hA.frame λp hp=>fr p (fA p hp).1 (fA p hp).2;have gB:iH (cY (cX l i B.rt) j i) B:=hB.frame λp hp=>fr p (fB p hp).1 (fB p hp).2;have gC:iH (cY (cX l i B.rt) j i) C:=hC.frame λp hp=>fr p (fC p hp).1 (fC p hp).2;have c1:=vP b1 gB gC;have kA:iH (bk (cY (cX l i B.rt) j i) i) A:=gA.frame λp hp=>ia (fA p hp).1;have kB:iH (bk (cY (cX l i B.rt) j i) i) B:=gB.frame λp hp=>ia (fB p hp).1;have kC:iH (bk (cY (cX l i B.rt) j i) i) C:=gC.frame λp hp=>ia (fC p hp).1;have kI:iH (bk (cY (cX l i B.rt) j i) i) (n B i k C):=⟨c1,kB,kC⟩;have c2:(bk (cY (cX l i B.rt) j i) i)[j]?=some (m.1,m.2,A.rt,(n B i k C).rt,h1):=(ia (mF ij)).trans b2;have d:=vP c2 kA kI;have et:dx l i=(bk (bk (cY (cX l i B.rt) j i) i) j,(j:Int)):=by simp only[dx,er,e1]
 rw[et];have fI:∀p∈(n B i k C).cJ,p≠j:=λp hp=>by
  simp only[cJ,eQ,ec]at hp;rcases hp with hp|rfl|hp
  ·exact(fB p hp).2
  ·exact ij
  ·exact(fC p hp).2
 exact⟨rfl,⟨d,kA.frame λp hp=>ia (fA p hp).2,kI.frame λp hp=>ia (fI p hp)⟩,λp h1 h2=>(ia h2).trans ((ia h1).trans (fr p h1 h2))⟩
structure Evn(l l':List Nd)(r:Int)(L:Tr)(i:Nat)(k:Key)(R T:Tr):Prop where
 root:r=T.rt
 kQ:iH l' T
 pP:T.pP
 ino:T.ino=L.ino++k::R.ino
 cJ:T.cJ=L.cJ++i::R.cJ
 fr:∀p,p∉L.cJ++i::R.cJ→l'[p]?=l[p]?
 lo:max L.ht R.ht≤T.ht
 hi:T.ht≤max L.ht R.ht+1
 st:L.ht≤R.ht+1→R.ht≤L.ht+1→T.ht=max L.ht R.ht+1
theorem EP{l:List Nd}{L R:Tr}{i:Nat}{k:Key}{h0:Int}(hi:l[i]?=some (k.1,k.2,L.rt,R.rt,h0))(hL:iH l L)(hR:iH l R)(aL:L.pP)(aR:R.pP)(hd:(L.cJ++i::R.cJ).Nodup)
  (h1:L.ht≤R.ht+2) (h2:R.ht≤L.ht+2):∃T,Evn l (fW l i).1 (fW l i).2 L i k R T:=by
 have hd0:=hd;simp only[ka,lD,ec]at hd;obtain⟨dL,⟨iR,dR⟩,dd⟩:=hd;have iL:i∉L.cJ:=λhp=>dd i hp i (.inl rfl) rfl;have m1:=vP hi hL hR;have mf:∀p,p≠i→(bk l i)[p]?=l[p]?:=λp hp=>ia hp;have gL:iH (bk l i) L:=hL.frame λp hp=>mf p λe=>iL (e▸hp);have gR:iH (bk l i) R:=hR.frame λp hp=>mf p λe=>iR (e▸hp);have el:lt (bk l i) (i:Int)=L.rt:=by rw[lt,gG m1]
 have er:bT (bk l i) (i:Int)=R.rt:=by rw[bT,gG m1]
 have en:iM (bk l i) i=L.ht-R.ht:=by rw[iM,el,er,se gL,se gR]
 by_cases c1:L.ht-R.ht>1
 ·have hR0:=R.xR;obtain⟨a,j,m,b,hLn⟩:=CY (t:=L) (by omega);subst hLn;have gj:=gL.1;have eln:iM (bk l i) (j:Int)=a.ht-b.ht:=by rw[iM,lt,bT,gG gj];exact congr (c_ _ (se gL.2.1)) (se gL.2.2)
  have hj':(n a j m b).rt=(j:Int):=rfl;rw[hj']at el;obtain⟨aa,ab,a1,a2⟩:=aL;simp only[ht]at h1 h2 c1;by_cases c2:a.ht-b.ht<0
  ·have ha0:=a.xR;obtain⟨b1,x,y,b2,hb⟩:=CY (t:=b) (by omega);subst hb;have gb:=gL.2.2;have hn1:(a.cJ++j::(b1.cJ++x::b2.cJ)).Nodup:=dL;obtain⟨t2,tr,tf⟩:=xB (A:=a) (B:=b1) (C:=b2) (i:=j) (j:=x) (k:=m) (m:=y) gj gb.1 gL.2.1 gb.2.1 gb.2.2 hn1;have xi:x≠i:=λe=>iL (by rw[←e];simp[cJ]);have ji:j≠i:=λe=>iL (by rw[←e];simp[cJ]);have u1:(dm (bk l i) j).1[i]?=_:=(tf i (mF ji) (mF xi)).trans m1;have u2:=wo ((x:Nat):Int) u1;have ids1:∀p,p∈(n (n a j m b1) x y b2).cJ→p≠i:=λp hp e=>iL (by rw[←e];simp only[cJ,jF,nM]at hp⊢;exact hp);have v1:iH (cX (dm (bk l i) j).1 i x) (n (n a j m b1) x y b2):=tr.frame λp hp=>kf (ids1 p hp);have v2:iH (cX (dm (bk l i) j).1 i x) R:=gR.frame λp hp=>(kf (show p≠i from λe=>iR (e▸hp))).trans (tf p (λe=>dd j (by simp[cJ]) p (.inr hp) e.symm) (λe=>dd x (by simp[cJ]) p (.inr hp) e.symm));have hn2:(((n a j m b1).cJ++x::b2.cJ)++i::R.cJ).Nodup:=(by simp only[cJ,jF,nM]at hd0⊢;exact hd0);obtain⟨w2,wr,wf⟩:=xD (A:=n a j m b1) (B:=b2) (C:=R) (i:=i) (j:=x) (k:=k) (m:=y) u2 v1.1 v1.2.1 v1.2.2 v2 hn2;simp only[pP,ht]at ab a1 a2 c1 c2 h1 h2;have ee:fW l i=dx (cX (dm (bk l i) j).1 i x) i:=(by rw[fW,aG (by rw[en];simp only[ht];omega),el,aG (by rw[eln];simp only[ht];omega),t2]);refine⟨n (n a j m b1) x y (n b2 i k R),?_⟩;rw[ee];refine⟨w2,wr,?_,by simp[ino],by simp[cJ],λp hp=>?_,?_,?_,?_⟩
   ·simp only[pP,ht];refine⟨⟨aa,ab.1,?_,?_⟩,⟨ab.2.1,aR,?_,?_⟩,?_,?_⟩<;>omega
   ·simp only[cJ,eQ,ec,qR]at hp;obtain⟨⟨p1,p2,p3,p4,p5⟩,p6,p7⟩:=hp;rw[wf p p6 p4,kf p6,tf p p2 p4,mf p p6]
   ·simp only[ht];omega
   ·simp only[ht];omega
   ·simp only[ht];omega
  ·obtain⟨w2,wr,wf⟩:=xD (A:=a) (B:=b) (C:=R) (i:=i) (j:=j) (k:=k) (m:=m) m1 gj gL.2.1 gL.2.2 gR hd0;have ee:fW l i=dx (bk l i) i:=by rw[fW,aG (by rw[en];simp only[ht];omega),el,ay (by rw[eln];exact c2)]
   refine⟨n a j m (n b i k R),?_⟩;rw[ee];refine⟨w2,wr,?_,by simp[ino],by simp[cJ],λp hp=>?_,?_,?_,?_⟩
   ·simp only[pP,ht];refine⟨aa,⟨ab,aR,?_,?_⟩,?_,?_⟩<;>omega
   ·simp only[cJ,eQ,ec,qR]at hp;obtain⟨⟨p1,p2,p3⟩,p6,p7⟩:=hp;rw[wf p p6 p2,mf p p6]
   ·simp only[ht];omega
   ·simp only[ht];omega
   ·simp only[ht];omega
 ·by_cases c3:L.ht-R.ht< -1
  ·have hL0:=L.xR;obtain⟨a,j,m,b,hRn⟩:=CY (t:=R) (by omega);subst hRn;have gj:=gR.1;have eln:iM (bk l i) (j:Int)=a.ht-b.ht:=(by rw[iM,lt,bT,gG gj];exact congr (c_ _ (se gR.2.1)) (se gR.2.2));have hj':(n a j m b).rt=(j:Int):=rfl;rw[hj']at er;obtain⟨aa,ab,a1,a2⟩:=aR;simp only[ht]at h1 h2 c3;by_cases c2:a.ht-b.ht>0
   ·have hb0:=b.xR;obtain⟨b1,x,y,b2,hb⟩:=CY (t:=a) (by omega);subst hb;have gb:=gR.2.1;have hn1:((b1.cJ++x::b2.cJ)++j::b.cJ).Nodup:=dR;obtain⟨t2,tr,tf⟩:=xD (A:=b1) (B:=b2) (C:=b) (i:=j) (j:=x) (k:=m) (m:=y) gj gb.1 gb.2.1 gb.2.2 gR.2.2 hn1;have xi:x≠i:=λe=>iR (by rw[←e];simp[cJ]);have ji:j≠i:=λe=>iR (by rw[←e];simp[cJ]);have u1:(dx (bk l i) j).1[i]?=_:=(tf i (mF ji) (mF xi)).trans m1;have u2:=wq ((x:Nat):Int) u1;have ids1:∀p,p∈(n b1 x y (n b2 j m b)).cJ→p≠i:=λp hp e=>iR (by rw[←e];simp only[cJ,jF,nM]at hp⊢;exact hp);have v1:iH (cY (dx (bk l i) j).1 i x) (n b1 x y (n b2 j m b)):=tr.frame λp hp=>kg (ids1 p hp);have v2:iH (cY (dx (bk l i) j).1 i x) L:=gL.frame λp hp=>(kg (show p≠i from λe=>iL (e▸hp))).trans (tf p (λe=>dd p hp j (.inr (by simp[cJ])) e) (λe=>dd p hp x (.inr (by simp[cJ])) e));have hn2:(L.cJ++i::(b1.cJ++x::(n b2 j m b).cJ)).Nodup:=(by simp only[cJ,jF,nM]at hd0⊢;exact hd0);obtain⟨w2,wr,wf⟩:=xB (A:=L) (B:=b1) (C:=n b2 j m b) (i:=i) (j:=x) (k:=k) (m:=y) u2 v1.1 v2 v1.2.1 v1.2.2 hn2;simp only[pP,ht]at aa a1 a2 c3 c2 h1 h2;have ee:fW l i=dm (cY (dx (bk l i) j).1 i x) i:=(by rw[fW,ay (by rw[en];simp only[ht];omega),aG (by rw[en];simp only[ht];omega),er,aG (by rw[eln];simp only[ht];omega),t2]);refine⟨n (n L i k b1) x y (n b2 j m b),?_⟩;rw[ee];refine⟨w2,wr,?_,by simp[ino],by simp[cJ],λp hp=>?_,?_,?_,?_⟩
    ·simp only[pP,ht];refine⟨⟨aL,aa.1,?_,?_⟩,⟨aa.2.1,ab,?_,?_⟩,?_,?_⟩<;>omega
    ·simp only[cJ,eQ,ec,qR]at hp;obtain⟨p1,p2,⟨p3,p4,p5⟩,p6,p7⟩:=hp;rw[wf p p2 p4,kg p2,tf p p6 p4,mf p p2]
    ·simp only[ht];omega
    ·simp only[ht];omega
    ·simp only[ht];omega
   ·obtain⟨w2,wr,wf⟩:=xB (A:=L) (B:=a) (C:=b) (i:=i) (j:=j) (k:=k) (m:=m) m1 gj gL gR.2.1 gR.2.2 hd0;have ee:fW l i=dm (bk l i) i:=by rw[fW,ay (by rw[en];simp only[ht];omega),aG (by rw[en];simp only[ht];omega),er,ay (by rw[eln];exact c2)]
    refine⟨n (n L i k a) j m b,?_⟩;rw[ee];refine⟨w2,wr,?_,by simp[ino],by simp[cJ],λp hp=>?_,?_,?_,?_⟩
    ·simp only[pP,ht];refine⟨⟨aL,aa,?_,?_⟩,ab,?_,?_⟩<;>omega
    ·simp only[cJ,eQ,ec,qR]at hp;obtain⟨p1,p2,p3,p4,p5⟩:=hp;rw[wf p p2 p4,mf p p2]
    ·simp only[ht];omega
    ·simp only[ht];omega
    ·simp only[ht];omega
  ·have ee:fW l i=(bk l i,(i:Int)):=(by rw[fW,ay (by rw[en];exact c1),ay (by rw[en];exact c3)]);refine⟨n L i k R,?_⟩;rw[ee];refine⟨rfl,⟨m1,gL,gR⟩,⟨aL,aR,by omega,by omega⟩,rfl,rfl,λp hp=>mf p λe=>hp (by rw[e];simp),?_,?_,?_⟩
   ·show _≤max L.ht R.ht+1;omega
   ·exact gQ _
   ·intro _ _;rfl
end Tree

namespace Tree
open Tr
inductive jN where
 |L (i:Nat) (k:Key) (r:Tr)
 |R (l:Tr) (i:Nat) (k:Key)
def jN.i:jN→Nat
 |.L i _ _=>i
 |.R _ i _=>i
def jN.put:jN→Tr→Tr
 |.L i k r,t=>n t i k r
 |.R l i k,t=>n l i k t
def fill:Tr→List jN→Tr
 |t,[]=>t
 |t,f::c=>fill (f.put t) c
def lc:List jN→List Nat
 |[]=>[]
 |.L _ _ _::c=>lc c
 |.R l i _::c=>lc c++l.cJ++[i]
def rc:List jN→List Nat
 |[]=>[]
 |.L i _ r::c=>i::(r.cJ++rc c)
 |.R _ _ _::c=>rc c
def lk:List jN→List Key
 |[]=>[]
 |.L _ _ _::c=>lk c
 |.R l _ k::c=>lk c++l.ino++[k]
def rk:List jN→List Key
 |[]=>[]
 |.L _ k r::c=>k::(r.ino++rk c)
 |.R _ _ _::c=>rk c
theorem lW:∀(c:List jN) (t:Tr),(fill t c).cJ=lc c++t.cJ++rc c
 |[],t=>by simp[fill,lc,rc]
 |.L i k r::c,t=>by rw[fill,lW c];simp[jN.put,cJ,lc,rc]
 |.R l i k::c,t=>by rw[fill,lW c];simp[jN.put,cJ,lc,rc]
theorem ou:∀(c:List jN) (t:Tr),(fill t c).ino=lk c++t.ino++rk c
 |[],t=>by simp[fill,lk,rk]
 |.L i k r::c,t=>by rw[fill,ou c];simp[jN.put,ino,lk,rk]
 |.R l i k::c,t=>by rw[fill,ou c];simp[jN.put,ino,lk,rk]
theorem mY:∀{c:List jN} {t:Tr},(fill t c).pP→t.pP
 |[],_,h=>h
 |.L i k r::c,t,h=>(mY (c:=c) h).1
 |.R l i k::c,t,h=>(mY (c:=c) h).2.1
def Bi(l:List Nd):Int→List jN→Prop
 |_,[]=>True
 |hole,.L i k r::c=>(∃h,l[i]?=some (k.1,k.2,hole,r.rt,h))∧iH l r∧Bi l i c
 |hole,.R s i k::c=>(∃h,l[i]?=some (k.1,k.2,s.rt,hole,h))∧iH l s∧Bi l i c
theorem kd{l:List Nd}:∀{c:List jN} {t:Tr},iH l (fill t c)→iH l t∧Bi l t.rt c
 |[],_,h=>⟨h,trivial⟩
 |.L i k r::c,t,h=>by
  obtain⟨⟨h1,h2,h3⟩,h4⟩:=kd (c:=c) h;exact⟨h2,⟨_,h1⟩,h3,h4⟩
 |.R s i k::c,t,h=>by
  obtain⟨⟨h1,h2,h3⟩,h4⟩:=kd (c:=c) h;exact⟨h3,⟨_,h1⟩,h2,h4⟩
theorem Bi.frame{l l':List Nd}:∀{c:List jN} {hole:Int},Bi l hole c→(∀j,j∈lc c∨j∈rc c→l'[j]?=l[j]?)→Bi l' hole c
 |[],_,_,_=>trivial
 |.L i k r::c,hole,⟨⟨h,h1⟩,h2,h3⟩,hf=>⟨⟨h,by rw[hf i (.inr (by simp[rc]))];exact h1⟩,h2.frame λj hj=>hf j (.inr (by simp[rc,hj])),h3.frame λj hj=>hf j (hj.imp (λx=>x) λx=>by simp[rc,x])⟩
 |.R s i k::c,hole,⟨⟨h,h1⟩,h2,h3⟩,hf=>⟨⟨h,by rw[hf i (.inl (by simp[lc]))];exact h1⟩,h2.frame λj hj=>hf j (.inl (by simp[lc,hj])),h3.frame λj hj=>hf j (hj.imp (λx=>by simp[lc,x]) λx=>x)⟩
def nE:Tr→Bool
 |.e=>false
 |.n _ _ _ _=>true
def lS(l:List Nd)(was i:Int):List Int→List Nd×Int
 |[]=>(l,i)
 |up::c=>let l1:=if lt l up=was then cX l up i else cY l up i
  lS (fW l1 up).1 up (fW l1 up).2 c
def jJ(l:List Nd)(i:Int):Key:=((nth l i).1,(nth l i).2.1)
def iK(l:List Nd)(was i:Int):List Int→List Nd×Int
 |[]=>(l,i)
 |up::c=>let l1:=if lt l up=was∧(was≠-1∨lH (jJ l i) (jJ l up)=true)then cX l up i else cY l up i
  iK (fW l1 up).1 up (fW l1 up).2 c
theorem BX:∀(c:List Int) (l:List Nd) (was i:Int),was≠-1→(∀x∈c,x≠-1)→iK l was i c=lS l was i c
 |[],l,was,i,_,_=>rfl
 |up::c,l,was,i,h,hc=>by
  simp only[iK,lS,h,ne_eq,vZ,true_or,and_true];exact BX c _ _ _ (hc up (by simp)) λx hx=>hc x (by simp[hx])
theorem BN:∀(c:List Int) (l:List Nd) (was i:Int),(lS l was i c).1.length=l.length
 |[],l,was,i=>rfl
 |up::c,l,was,i=>by
  simp only[lS];rw[BN c,qc];split<;>simp[cT,cV]
theorem BW:∀(c:List Int) (l:List Nd) (was i:Int),(iK l was i c).1.length=l.length
 |[],l,was,i=>rfl
 |up::c,l,was,i=>by
  simp only[iK];rw[BW c,qc];split<;>simp[cT,cV]
def g_(c:List jN):List Int:=c.map λf=>(f.i:Int)
structure Zc(l l':List Nd)(r:Int)(s:Tr)(c:List jN)(T:Tr):Prop where
 root:r=T.rt
 kQ:iH l' T
 pP:T.pP
 ino:T.ino=lk c++s.ino++rk c
 cJ:T.cJ=lc c++s.cJ++rc c
 fr:∀p,p∉lc c++s.cJ++rc c→l'[p]?=l[p]?
def Knw(t s:Tr)(c:List jN)(was:Int):Prop:=(∃w:Nat,was=w∧t.rt=w)∨(was=-1∧t=.e∧∃i k,s=.n .e i k .e∧(∀m∈lk c,lH m k=true)∧∀m∈rk c,lH k m=true)
theorem vI:∀(c:List jN) (l:List Nd) (t s:Tr) (was:Int),Knw t s c was→Bi l was c→iH l s→(fill t c).pP→s.pP→s.ht≤t.ht+1→t.ht≤s.ht+1→(lc c++t.cJ++rc c).Nodup→(lc c++s.cJ++rc c).Nodup→
  ∃T,Zc l (iK l was s.rt (g_ c)).1 (iK l was s.rt (g_ c)).2 s c T
 |[],l,t,s,was,_,_,hs,_,as,_,_,_,_=>⟨s,rfl,hs,as,by simp[lk,rk],by simp[lc,rc],λp hp=>rfl⟩
 |.L i k r::c,l,t,s,was,hw,⟨⟨h0,hi⟩,hr,hc⟩,hs,ha,as,g1,g2,d1,d2=>by
  have hv:=mY (c:=c) (t:=n t i k r) ha;have e1:lt l (i:Int)=was∧(was≠-1∨lH (jJ l s.rt) (jJ l i)=true):=by
   refine⟨by rw[lt,gG hi],?_⟩;rcases hw with⟨w,rfl,_⟩|⟨_,_,j,k',rfl,_,hk⟩
   ·left;omega
   ·right;have e2:jJ l (i:Int)=k:=by rw[jJ,gG hi]
    have e3:jJ l (n e j k' e).rt=k':=by
     show jJ l (j:Int)=k';rw[jJ,gG hs.1]
    rw[e2,e3];exact hk k (by simp[rk])
  have d2':=d2;simp only[lc,rc,ka,lD,eQ,ec,qR]at d2;obtain⟨⟨dl,ds,dls⟩,⟨⟨ir,ic⟩,dr,dc,drc⟩,dd⟩:=d2;have is:i∉s.cJ:=λhx=>dd i (.inr hx) i (.inl rfl) rfl;have il:i∉lc c:=λhx=>dd i (.inl hx) i (.inl rfl) rfl;have a1:=wo s.rt hi;have fs:iH (cX l i s.rt) s:=hs.frame λp hp=>kf (show p≠i from λe=>is (e▸hp));have fr:iH (cX l i s.rt) r:=hr.frame λp hp=>kf (show p≠i from λe=>ir (e▸hp));have hn:(s.cJ++i::r.cJ).Nodup:=by
   rw[ka,lD];refine⟨ds,⟨ir,dr⟩,λa ha b hb=>dd a (.inr ha) b ?_⟩;rw[ec]at hb;exact hb.imp (λx=>x) .inl
  obtain⟨T,ev⟩:=EP (k:=k) a1 fs fr as hv.2.1 hn (by have:=hv.2.2;omega) (by have:=hv.2.2;omega);have fc:Bi (fW (cX l i s.rt) i).1 i c:=hc.frame λj hj=>by
   have ne:j∉s.cJ++i::r.cJ:=λhx=>by
    rw[eQ,ec]at hx;rcases hx with hx|rfl|hx
    ·rcases hj with hj|hj
     ·exact dls j hj j hx rfl
     ·exact dd j (.inr hx) j (.inr (.inr hj)) rfl
    ·exact hj.elim il ic
    ·rcases hj with hj|hj
     ·exact dd j (.inl hj) j (.inr (.inl hx)) rfl
     ·exact drc j hx j hj rfl
   rw[ev.fr j ne];exact kf (show j≠i from λe=>ne (by rw[e];simp))
  have r1:=ev.root;obtain⟨lo,hi',st⟩:=(⟨ev.lo,ev.hi,ev.st⟩:_∧_∧_);have av:=hv.2.2;obtain⟨T',mv⟩:=vI c (fW (cX l i s.rt) i).1 (n t i k r) T i (.inl ⟨i,rfl,rfl⟩) fc ev.kQ ha ev.pP (by simp only[ht];omega) (by simp only[ht];omega)
   (by simpa [lc,rc,cJ]using d1) (by rw[ev.cJ];simpa [lc,rc]using d2')
  refine⟨T',?_⟩;have e2:iK l was s.rt (g_ (.L i k r::c))=iK (fW (cX l i s.rt) i).1 i T.rt (g_ c):=by
   simp only[g_,kJ,jN.i,iK,aG e1];rw[r1]
  rw[e2];refine⟨mv.root,mv.kQ,mv.pP,by rw[mv.ino,ev.ino];simp[lk,rk],by rw[mv.cJ,ev.cJ];simp[lc,rc],λp hp=>?_⟩;have hp2:p∉lc c++T.cJ++rc c:=by rw[ev.cJ];simpa [lc,rc]using hp
  have hp3:p∉s.cJ++i::r.cJ:=λhx=>hp (by
   simp only[eQ,ec,lc,rc]at hx⊢;rcases hx with hx|hx|hx
   ·exact .inl (.inr hx)
   ·exact .inr (.inl hx)
   ·exact .inr (.inr (.inl hx)))
  rw[mv.fr p hp2,ev.fr p hp3];exact kf (show p≠i from λe=>hp3 (by rw[e];simp))
 |.R q i k::c,l,t,s,was,hw,⟨⟨h0,hi⟩,hr,hc⟩,hs,ha,as,g1,g2,d1,d2=>by
  have hv:=mY (c:=c) (t:=n q i k t) ha;have e1:¬(lt l (i:Int)=was∧(was≠-1∨lH (jJ l s.rt) (jJ l i)=true)):=by
   rintro⟨e,e0⟩;rw[lt,gG hi]at e;rcases hw with⟨w,rfl,hw⟩|⟨h1,_,j,k',rfl,hk,_⟩
   ·have m1:=OL (t:=q) (i:=w) e;have m2:=OL (t:=t) hw;simp only[lc,ka]at d1;exact d1.1.2.2 w (by simp[m1]) w m2 rfl
   ·rcases e0 with e0|e0
    ·exact e0 h1
    ·have e2:jJ l (i:Int)=k:=(by rw[jJ,gG hi]);have e3:jJ l (n Tr.e j k' Tr.e).rt=k':=by
      show jJ l (j:Int)=k';rw[jJ,gG hs.1]
     rw[e2,e3,E1 (hk k (by simp[lk]))]at e0;cases e0
  have d2':=d2;simp only[lc,rc,ka,lD,eQ,ec,j_,qR,List.not_mem_nil,vZ,or_false,List.nodup_nil,and_true,true_and]at d2;obtain⟨⟨⟨⟨dl,dq,dlq⟩,di⟩,ds,dls⟩,dr,dd⟩:=d2;have is:i∉s.cJ:=λhx=>dls i (.inr rfl) i hx rfl;have iq:i∉q.cJ:=λhx=>di i (.inr hx) i rfl rfl;have il:i∉lc c:=λhx=>di i (.inl hx) i rfl rfl;have ic:i∉rc c:=λhx=>dd i (.inl (.inr rfl)) i hx rfl;have a1:=wq s.rt hi;have fs:iH (cY l i s.rt) s:=hs.frame λp hp=>kg (show p≠i from λe=>is (e▸hp));have fr:iH (cY l i s.rt) q:=hr.frame λp hp=>kg (show p≠i from λe=>iq (e▸hp));have hn:(q.cJ++i::s.cJ).Nodup:=by
   rw[ka,lD];refine⟨dq,⟨is,ds⟩,λa hx b hb=>?_⟩;rw[ec]at hb;rcases hb with rfl|hb
   ·exact di a (.inr hx) b rfl
   ·exact dls a (.inl (.inr hx)) b hb
  obtain⟨T,ev⟩:=EP (k:=k) a1 fr fs hv.1 as hn (by have:=hv.2.2;omega) (by have:=hv.2.2;omega);have fc:Bi (fW (cY l i s.rt) i).1 i c:=hc.frame λj hj=>by
   have ne:j∉q.cJ++i::s.cJ:=λhx=>by
    rw[eQ,ec]at hx;rcases hx with hx|rfl|hx
    ·rcases hj with hj|hj
     ·exact dlq j hj j hx rfl
     ·exact dd j (.inl (.inl (.inr hx))) j hj rfl
    ·exact hj.elim il ic
    ·rcases hj with hj|hj
     ·exact dls j (.inl (.inl hj)) j hx rfl
     ·exact dd j (.inr hx) j hj rfl
   rw[ev.fr j ne];exact kg (show j≠i from λe=>ne (by rw[e];simp))
  have r1:=ev.root;obtain⟨lo,hi',st⟩:=(⟨ev.lo,ev.hi,ev.st⟩:_∧_∧_);have av:=hv.2.2;obtain⟨T',mv⟩:=vI c (fW (cY l i s.rt) i).1 (n q i k t) T i (.inl ⟨i,rfl,rfl⟩) fc ev.kQ ha ev.pP (by simp only[ht];omega) (by simp only[ht];omega)
   (by simpa [lc,rc,cJ]using d1) (by rw[ev.cJ];simpa [lc,rc]using d2')
  refine⟨T',?_⟩;have e2:iK l was s.rt (g_ (.R q i k::c))=iK (fW (cY l i s.rt) i).1 i T.rt (g_ c):=by
   simp only[g_,kJ,jN.i,iK,ay e1];rw[r1]
  rw[e2];refine⟨mv.root,mv.kQ,mv.pP,by rw[mv.ino,ev.ino];simp[lk,rk],by rw[mv.cJ,ev.cJ];simp[lc,rc],λp hp=>?_⟩;have hp2:p∉lc c++T.cJ++rc c:=by rw[ev.cJ];simpa [lc,rc]using hp
  have hp3:p∉q.cJ++i::s.cJ:=λhx=>hp (by
   simp only[eQ,ec,lc,rc,j_]at hx⊢;rcases hx with hx|hx|hx
   ·exact .inl (.inl (.inl (.inr hx)))
   ·exact .inl (.inl (.inr (.inl hx)))
   ·exact .inl (.inr hx))
  rw[mv.fr p hp2,ev.fr p hp3];exact kg (show p≠i from λe=>hp3 (by rw[e];simp))
def find(k:Key):Tr→List jN→Tr×List jN
 |.e,c=>(.e,c)
 |.n l i m r,c=>if lH k m then find k l (.L i m r::c)else if k=m then(.n l i m r,c)else find k r (.R l i m::c)
theorem WQ(c:List jN):∀x∈g_ c,x≠-1:=by
 intro x hx;obtain⟨f,_,rfl⟩:=pu.1 hx;omega
theorem n_(k:Key):∀(t:Tr) (c:List jN),fill (find k t c).1 (find k t c).2=fill t c
 |.e,c=>rfl
 |.n l i m r,c=>by
  unfold find;split
  ·rw[n_ k l];rfl
  ·split
   ·rfl
   ·rw[n_ k r];rfl
def Ba(l:List Key):Prop:=l.Pairwise λa b=>lH a b=true
theorem vE(k:Key):∀(t:Tr) (c:List jN),Ba t.ino→(∀m∈lk c,lH m k=true)→(∀m∈rk c,lH k m=true)→
  (∀m∈lk (find k t c).2,lH m k=true)∧(∀m∈rk (find k t c).2,lH k m=true)∧((find k t c).1=.e∨∃l i r,(find k t c).1=.n l i k r)
 |.e,c,_,h1,h2=>⟨h1,h2,.inl rfl⟩
 |.n l i m r,c,hs,h1,h2=>by
  simp only[ino,Ba,Ag,uc]at hs;obtain⟨s1,⟨s2,s3⟩,s4⟩:=hs;unfold find;by_cases c1:lH k m=true
  ·rw[aG c1];refine vE k l _ s1 h1 λx hx=>?_;simp only[rk,ec,eQ]at hx;rcases hx with rfl|hx|hx
   ·exact c1
   ·exact w8 c1 (s2 x hx)
   ·exact h2 x hx
  ·rw[ay c1];by_cases c2:k=m
   ·rw[aG c2];exact⟨h1,h2,.inr ⟨l,i,r,by rw[c2]⟩⟩
   ·rw[ay c2];have c3:=IP (by simpa using c1) c2;refine vE k r _ s3 (λx hx=>?_) h2;simp only[lk,eQ,j_]at hx;rcases hx with(hx|hx)|rfl
    ·exact h1 x hx
    ·exact w8 (s4 x hx m (by simp)) c3
    ·exact c3
def f_:Tr→List jN→Tr×List jN
 |.e,c=>(.e,c)
 |.n .e i m r,c=>(.n .e i m r,c)
 |.n (.n a j x b) i m r,c=>f_ (.n a j x b) (.L i m r::c)
theorem uK:∀(t:Tr) (c:List jN),fill (f_ t c).1 (f_ t c).2=fill t c
 |.e,c=>rfl
 |.n .e i m r,c=>rfl
 |.n (.n a j x b) i m r,c=>by rw[f_,uK (.n a j x b)];rfl
theorem C5:∀(t:Tr) (c:List jN),t≠.e→∃j m b,(f_ t c).1=.n .e j m b∧∃d,(f_ t c).2=d++c∧lk d=[]∧lc d=[]
 |.e,c,h=>absurd rfl h
 |.n .e i m r,c,_=>⟨i,m,r,rfl,[],rfl,rfl,rfl⟩
 |.n (.n a j x b) i m r,c,_=>by
  obtain⟨j',m',b',h1,d,h2,h3,h4⟩:=C5 (.n a j x b) (.L i m r::c) (by simp);have lkd:∀d:List jN,lk d=[]→lk (d++[.L i m r])=[]:=by
   intro d
   induction d with
   |nil=>intro _;rfl
   |cons f d ih=>cases f<;>simp[lk]<;>exact ih
  have lcd:∀d:List jN,lc d=[]→lc (d++[.L i m r])=[]:=by
   intro d
   induction d with
   |nil=>intro _;rfl
   |cons f d ih=>cases f<;>simp[lc]<;>exact ih
  exact⟨j',m',b',h1,d++[.L i m r],by rw[f_,h2];simp,lkd d h3,lcd d h4⟩
theorem Ba.B7{a b:List Key}{k m:Key}(h:Ba (a++k::b)):(∀x∈a,lH x k=true)∧(∀x∈b,lH k x=true):=by
 simp only[Ba,Ag,uc]at h;exact⟨λx hx=>h.2.2 x hx k (by simp),h.2.1.1⟩
theorem Ba.put{a b:List Key}{k:Key}(h:Ba (a++b))(h1:∀x∈a,lH x k=true)(h2:∀x∈b,lH k x=true):Ba (a++k::b):=by
 simp only[Ba,Ag,uc,ec]at h⊢;refine⟨h.1,⟨h2,h.2.1⟩,λx hx y hy=>?_⟩;rcases hy with rfl|hy
 ·exact h1 x hx
 ·exact h.2.2 x hx y hy
theorem Ba.nodup{a:List Key}(h:Ba a):a.Nodup:=h.imp λ{x y} hxy e=>by rw[e,tc]at hxy;cases hxy
theorem Re{l l1:List Nd}{T:Tr}{k:Key}{c:List jN}{i:Nat}(hT:iH l T)(hf:find k T []=(.e,c))(ha:T.pP)(hd:T.cJ.Nodup)(hs:Ba T.ino)(hi:i∉T.cJ)(h1:l1[i]?=some (k.1,k.2,-1,-1,1))(hr:∀j∈T.cJ,l1[j]?=l[j]?):
  ∃T',Zc l1 (iK l1 (-1) i (g_ c)).1 (iK l1 (-1) i (g_ c)).2 (.n .e i k .e) c T'∧T.ino=lk c++rk c∧T.cJ=lc c++rc c∧(∀m∈lk c,lH m k=true)∧∀m∈rk c,lH k m=true:=by
 have e:=n_ k T [];rw[hf]at e;have e:fill .e c=T:=e;have hl:=vE k T [] hs (by simp[lk]) (by simp[rk]);rw[hf]at hl;obtain⟨g1,g2,_⟩:=hl;have ei:T.cJ=lc c++rc c:=by rw[←e,lW];simp[cJ]
 have eo:T.ino=lk c++rk c:=by rw[←e,ou];simp[ino]
 have hR:iH l1 T:=hT.frame hr;rw[←e]at hR ha;have hd2:(lc c++(n Tr.e i k Tr.e).cJ++rc c).Nodup:=by
  rw[ei]at hd hi;simp only[cJ,pr,jF,Dr];rw[ka]at hd⊢;rw[eQ,qR]at hi;refine⟨hd.1,lD.2 ⟨hi.2,hd.2.1⟩,λa ha b hb=>?_⟩;rcases ec.1 hb with rfl|hb
  ·exact λe=>hi.1 (e▸ha)
  ·exact hd.2.2 a ha b hb
 obtain⟨T',mv⟩:=vI c l1 .e (.n .e i k .e) (-1) (.inr ⟨rfl,rfl,i,k,rfl,g1,g2⟩) (kd hR).2 ⟨h1,trivial,trivial⟩ ha ⟨trivial,trivial,by simp[ht],by simp[ht]⟩ (by simp[ht]) (by simp[ht])
  (by rw[ei]at hd;simpa [cJ]using hd) hd2
 exact⟨T',mv,eo,ei,g1,g2⟩
def Bs:Tr→Tr→Tr
 |.e,b=>b
 |.n l i k r,_=>.n l i k r
theorem MA{l:List Nd}{T a b:Tr}{k:Key}{c:List jN}{i:Nat}(hT:iH l T)(hf:T=fill (.n a i k b) c)(hab:a=.e∨b=.e)(ha:T.pP)(hd:T.cJ.Nodup):
  ∃T' s,s=Bs a b∧Zc l (lS l i s.rt (g_ c)).1 (lS l i s.rt (g_ c)).2 s c T'∧s.ino=a.ino++b.ino∧s.cJ=a.cJ++b.cJ:=by
 subst hf;obtain⟨h1,h2⟩:=kd hT;have ea:=mY ha;have hs:iH l (Bs a b)∧(Bs a b).pP∧(Bs a b).ht+1=(n a i k b).ht∧(Bs a b).ino=a.ino++b.ino∧(Bs a b).cJ=a.cJ++b.cJ:=by
  cases a with
  |e=>
   refine⟨h1.2.2,ea.2.1,?_,rfl,rfl⟩;have:=b.xR;simp only[ht,Bs];omega
  |n l i k r=>
   have c2:b=.e:=hab.resolve_left (by simp);refine⟨h1.2.1,ea.1,?_,by rw[c2];simp[ino,Bs],by rw[c2];simp[cJ,Bs]⟩;have:=(n l i k r).xR;rw[c2];simp only[ht,Bs]at this⊢;omega
 obtain⟨q1,q2,q3,q4,q5⟩:=hs;have hd1:(lc c++(n a i k b).cJ++rc c).Nodup:=by rw[←lW];exact hd
 have hd2:(lc c++(Bs a b).cJ++rc c).Nodup:=by
  rw[q5];refine hd1.sublist ?_;simp only[cJ];exact((Hm _).append ((Hm _).append (List.sublist_cons_self _ _))).append (Hm _)
 obtain⟨T',mv⟩:=vI c l (.n a i k b) (Bs a b) i (.inl ⟨i,rfl,rfl⟩) h2 q1 ha q2 (by omega) (by omega) hd1 hd2;refine⟨T',_,rfl,?_,q4,q5⟩;rw[←BX _ _ _ _ (by omega) (WQ c)];exact mv
end Tree

namespace gM
open bH
structure Wn where
 w:Int
 t0:Int
 v0:Int
 t1:Int
 v1:Int
 t2:Int
 v2:Int
 la:Int
structure va(v:Wn):Prop where
 w:U v.w
 t0:U v.t0
 v0:U v.v0
 t1:U v.t1
 v1:U v.v1
 t2:U v.t2
 v2:U v.v2
 la:U v.la
def Wn.all(v:Wn)(t x:Int):Wn:={v with t0:=t,v0:=x,t1:=t,v1:=x,t2:=t,v2:=x}
def Wn.Ef(v:Wn)(t x:Int):Wn:={v with t1:=t,v1:=x,t2:=t,v2:=x}
def Wn.s2(v:Wn)(t x:Int):Wn:={v with t2:=t,v2:=x}
def Wn.push(v:Wn)(t x:Int):Wn:={v with t0:=v.t1,v0:=v.v1,t1:=v.t2,v1:=v.v2,t2:=t,v2:=x}
def pQ(t s w:Int):Prop:=dX t s>w
instance(t s w:Int):Decidable (pQ t s w):=by unfold pQ;infer_instance
def A4(v:Wn)(t x:Int):Wn:=if x≥v.v1 then v.Ef t x else if x≥v.v2 then v.s2 t x else v
def wH(v:Wn)(t x:Int):Wn:=
 if pQ t v.t0 v.w then(if pQ t v.t1 v.w then(v.push t x).push t x else v.push t x)
 else if v.t1=v.t0∧pQ t v.t0 (v.w/4)then v.Ef t x
 else if v.t2=v.t1∧pQ t v.t0 (v.w/2)then v.s2 t x else v
def Wn.tick(v:Wn)(t:Int):Wn:={v with la:=if t>v.la then t else v.la}
def wU(v:Wn)(t x:Int):Wn:=if x≥v.v0∨pQ t v.t2 v.w then v.all t x else wH (A4 v t x) t x
def A5(v:Wn)(t x:Int):Wn:=wU (v.tick t) (v.tick t).la x
theorem va.all(h:va v){t x:Int}(ht:U t)(hx:U x):va (v.all t x):=⟨h.w,ht,hx,ht,hx,ht,hx,h.la⟩
theorem va.Ef(h:va v){t x:Int}(ht:U t)(hx:U x):va (v.Ef t x):=⟨h.w,h.t0,h.v0,ht,hx,ht,hx,h.la⟩
theorem va.s2(h:va v){t x:Int}(ht:U t)(hx:U x):va (v.s2 t x):=⟨h.w,h.t0,h.v0,h.t1,h.v1,ht,hx,h.la⟩
theorem va.push(h:va v){t x:Int}(ht:U t)(hx:U x):va (v.push t x):=⟨h.w,h.t1,h.v1,h.t2,h.v2,ht,hx,h.la⟩
theorem va.tick(h:va v){t:Int}(ht:U t):va (v.tick t):=⟨h.w,h.t0,h.v0,h.t1,h.v1,h.t2,h.v2,by
 show U (if _ then _ else _);split
 ·exact ht
 ·exact h.la⟩
theorem va.A4{v:Wn}(h:va v){t x:Int}(ht:U t)(hx:U x):va (A4 v t x):=by
 unfold gM.A4;split
 ·exact h.Ef ht hx
 ·split
  ·exact h.s2 ht hx
  ·exact h
theorem va.wH{v:Wn}(h:va v){t x:Int}(ht:U t)(hx:U x):va (wH v t x):=by
 unfold gM.wH;split
 ·split
  ·exact(h.push ht hx).push ht hx
  ·exact h.push ht hx
 ·split
  ·exact h.Ef ht hx
  ·split
   ·exact h.s2 ht hx
   ·exact h
theorem va.wU{v:Wn}(h:va v){t x:Int}(ht:U t)(hx:U x):va (wU v t x):=by
 unfold gM.wU;split
 ·exact h.all ht hx
 ·exact(h.A4 ht hx).wH ht hx
theorem va.A5{v:Wn}(h:va v){t x:Int}(ht:U t)(hx:U x):va (A5 v t x):=(h.tick ht).wU (h.tick ht).la hx
abbrev Sm:Type:=Int×Int×Int×Int×Int×Int×Int×Int×Bool
abbrev iT(s:Sm):Int:=s.1
abbrev gO(s:Sm):Int:=s.2.1
abbrev FR(s:Sm):Int:=s.2.2.1
abbrev AQ(s:Sm):Int:=s.2.2.2.1
abbrev OP(s:Sm):Int:=s.2.2.2.2.1
abbrev fE(s:Sm):Int:=s.2.2.2.2.2.1
abbrev gT(s:Sm):Int:=s.2.2.2.2.2.2.1
abbrev kO(s:Sm):Int:=s.2.2.2.2.2.2.2.1
abbrev rG(s:Sm):Bool:=s.2.2.2.2.2.2.2.2
structure oi(s:Sm):Prop where
 aj:U (iT s)
 del:U (gO s)
 pri:U (FR s)
 Xj:U (AQ s)
 bT:U (OP s)
 Ep:U (fE s)
 bo:U (gT s)
 W8:U (kO s)
structure SG where
 n:Int
 nx:Int
structure LF(r:SG):Prop where
 n:U r.n
 nx:U r.nx
def rB(r:SG)(s:Sm):Bool:=decide (fE s>0)&&!decide (FR s<r.nx)
def rU(r:SG)(s:Sm):SG:=if rB r s then⟨u64.wrap (r.n+1),gO s⟩else r
theorem LF.rU{r:SG}(h:LF r){s:Sm}(hs:oi s):LF (rU r s):=by
 unfold gM.rU;split
 ·exact⟨ur _,hs.del⟩
 ·exact h
structure Pp where
 dy:Int
 n:Int
 full:Bool
structure WX(p:Pp):Prop where
 dy:U p.dy
 n:0≤p.n∧p.n≤3
 full:p.full=false→p.n<3
def pU(p:Pp)(start limited:Bool)(bw:Int):Pp:=
 if !p.full&&start&&!limited then
  (if bw≥qN p.dy 320 256 then⟨bw,0,p.full⟩else⟨p.dy,p.n+1,decide (p.n+1=3)⟩)
 else p
theorem WX.pU{p:Pp}(h:WX p){a b:Bool}{bw:Int}(hb:U bw):WX (pU p a b bw):=by
 unfold gM.pU;split
 ·rename_i hc;have hf:p.full=false:=by simp at hc;exact hc.1.1
  have hn:=h.full hf;have:=h.n;split
  ·exact⟨hb,by simp,λ_=>by simp⟩
  ·exact⟨h.dy,by simp;omega,λhh=>by simp at hh⊢;omega⟩
 ·exact h
structure Cy where
 ph:Int
 lg:Int
structure yo(c:Cy):Prop where
 ph:0≤c.ph∧c.ph<8
 lg:U c.lg
def Mu(aj ph:Int):Cy:=⟨ph%8,aj⟩
def cB(c:Cy)(aj bT bo fl up one:Int):Bool:=
 if c.ph=0 then decide (dX aj c.lg>bT)&&(decide (bo>0)||decide (fl≥up))
 else if c.ph=1 then decide (dX aj c.lg>bT)||decide (fl≤one)else decide (dX aj c.lg>bT)
def cU(c:Cy)(aj bT bo fl up one:Int):Cy:=if cB c aj bT bo fl up one then Mu aj (c.ph+1)else c
def cG(c:Cy):Int:=if c.ph=0 then 320 else if c.ph=1 then 192 else 256
theorem yo.st{aj ph:Int}(h:U aj):yo (Mu aj ph):=⟨by unfold Mu;dsimp only;omega,h⟩
theorem yo.cU{c:Cy}(h:yo c){aj bT bo fl up one:Int}(hn:U aj):yo (cU c aj bT bo fl up one):=by
 unfold gM.cU;split
 ·exact yo.st hn
 ·exact h
structure Pb where
 dy:Int
 lg:Int
 on:Bool
 kj:Int
 rd:Bool
structure JC(b:Pb):Prop where
 dy:U b.dy
 lg:U b.lg
 kj:U b.kj
def Bl(b:Pb)(aj:Int):Bool:=decide (b.dy>0)&&decide (aj>bJ b.lg 10000000000)
def yZ(b:Pb)(aj bT:Int):Bool:=decide (bT>0)&&(decide (b.dy=0)||(decide (bT≤b.dy)||Bl b aj))
def lR(b:Pb)(aj bT:Int):Pb:=if yZ b aj bT then{b with dy:=bT,lg:=aj}else b
def CE(b:Pb)(aj:Int)(start:Bool)(fl floor:Int):Bool×Pb:=
 if b.kj=0 then(if fl≤floor then(false,{b with kj:=bJ aj 200000000,rd:=false})else(false,b))
 else if !(b.rd||start)then(false,{b with rd:=b.rd||start})
 else if aj≤b.kj then(false,{b with rd:=b.rd||start})
 else(true,{b with rd:=b.rd||start,lg:=aj,on:=false})
def bU(b:Pb)(aj bT:Int)(start:Bool)(fl floor:Int):(Bool×Bool)×Pb:=
 if Bl b aj&&!b.on then((true,false),{lR b aj bT with on:=true,kj:=0,rd:=false})
 else if b.on then((false,(CE (lR b aj bT) aj start fl floor).1),(CE (lR b aj bT) aj start fl floor).2)
 else((false,false),lR b aj bT)
theorem JC.new(h:JC b){aj bT:Int}(hn:U aj)(hr:U bT):JC (lR b aj bT):=by
 unfold lR;split
 ·exact⟨hr,hn,h.kj⟩
 ·exact h
theorem JC.lv{b:Pb}(h:JC b){aj fl floor:Int}{st:Bool}(hn:U aj):JC (CE b aj st fl floor).2:=by
 unfold CE;split
 ·split
  ·exact⟨h.dy,h.lg,oT hn (bm _)⟩
  ·exact h
 ·split
  ·exact⟨h.dy,h.lg,h.kj⟩
  ·split
   ·exact⟨h.dy,h.lg,h.kj⟩
   ·exact⟨h.dy,hn,h.kj⟩
theorem JC.bU{b:Pb}(h:JC b){aj bT fl floor:Int}{st:Bool}(hn:U aj)(hr:U bT):JC (bU b aj bT st fl floor).2:=by
 have:=h.new hn hr;unfold gM.bU;split
 ·exact⟨this.dy,this.lg,bm 0⟩
 ·split
  ·exact this.lv hn
  ·exact this
structure Pl where
 jh:Bool
 vd:Bool
 bw:Int
 n:Int
 bo:Int
 t0:Int
 d0:Int
 l0:Int
structure ry(q:Pl):Prop where
 bw:U q.bw
 n:0≤q.n∧q.n≤48
 bo:U q.bo
 t0:U q.t0
 d0:U q.d0
 l0:U q.l0
 nu:q.jh=true→q.n<48
 nm:q.jh=false→q.vd=true→q.n≤16
def JO(a b:Int):Int:=a/2+b/2+(a%2+b%2)/2
def apart(a b:Int):Int:=if a<b then b-a else a-b
theorem Xu{a b:Int}(ha:U a)(hb:U b):U (JO a b):=by unfold U JO at*;omega
def oB(q:Pl)(s:Sm):Option Int:=
 if dX (gO s) q.d0=0∨dX (iT s) q.t0=0 then none
 else if dX q.bo q.l0<qN (dX (gO s) q.d0) 50 256 then none
 else some (qN (dX (gO s) q.d0) 1000000000 (dX (iT s) q.t0))
def lr(q:Pl)(s:Sm):Pl:={q with vd:=true,n:=0,t0:=iT s,d0:=gO s,l0:=q.bo}
def gH(q:Pl):Pl:={q with jh:=false,vd:=false,bw:=0}
def xh(q:Pl)(s:Sm)(r:Int):Pl:=if q.bw>0∧apart q.bw r≤q.bw/8 then{q with bw:=JO q.bw r,jh:=true,n:=0}else lr {q with bw:=r} s
def tP(q:Pl)(s:Sm):Pl:=match oB q s with
 |none=>q
 |some r=>xh q s r
def ml(q:Pl)(s:Sm):Pl:={q with bo:=bJ q.bo (gT s)}
def gy(q:Pl)(o:Bool):Pl:=if o then{q with n:=q.n+1}else q
def Dh(q:Pl)(o:Bool)(s:Sm):Pl:=
 if q.jh then(if o=true∧q.n=48 then{gH q with n:=0}else q)
 else if q.n>16 then gH q
 else if q.n≥4∧gT s>0 then tP q s else q
def yk(q:Pl)(o:Bool)(s:Sm):Pl:=
 if q.jh=false∧q.vd=false then(if gT s>0 then lr (ml q s) s else ml q s)
 else if q.jh=false∧rG s=true then gH (ml q s)
 else Dh (gy (ml q s) o) o s
theorem ry.begin(hb:U q.bw)(hl:U q.bo)(hs:oi s):ry (lr q s):=
 ⟨hb,by simp[lr],hl,hs.aj,hs.del,hl,λ_=>by simp[lr],λ_ _=>by simp[lr]⟩
theorem ry.lZ(h:ry q):ry (gH q):=⟨bm 0,h.n,h.bo,h.t0,h.d0,h.l0,λhh=>by simp[gH]at hh,λ_ hh=>by simp[gH]at hh⟩
theorem ry.add(h:ry q)(hs:oi s):ry (ml q s):=⟨h.bw,h.n,oT h.bo hs.bo,h.t0,h.d0,h.l0,h.nu,h.nm⟩
theorem Gf(h:ry q)(hs:oi s){r:Int}(hr:oB q s=some r):U r:=by
 unfold oB at hr;split at hr
 ·cases hr
 ·split at hr
  ·cases hr
  ·cases hr;exact yS (nB hs.del h.d0) (bm _) (nB hs.aj h.t0)
theorem ry.got(h:ry q)(hs:oi s){r:Int}(hr:U r):ry (xh q s r):=by
 unfold xh;split
 ·exact⟨Xu h.bw hr,by simp,h.bo,h.t0,h.d0,h.l0,λ_=>by simp,λ_ _=>by simp⟩
 ·exact ry.begin hr h.bo hs
theorem ry.XW(h:ry q)(hs:oi s):ry (tP q s):=by
 unfold tP;split
 ·exact h
 ·rename_i r hr;exact h.got hs (Gf h hs hr)
theorem Wh(h:ry q)(hs:oi s)(hm:q.jh=false→q.vd=true):ry (Dh (gy q o) o s):=by
 obtain⟨jh,vd,bw,n,bo,t0,d0,l0⟩:=q;have h1:=h.n;have h2:=h.nu;have h3:=h.nm;dsimp only at h1 h2 h3 hm;cases o with
 |false=>
  show ry (Dh _ false s);unfold Dh;simp only[gy,jo,jp,false_and];split
  ·exact h
  ·split
   ·exact h.lZ
   ·split
    ·exact h.XW hs
    ·exact h
 |true=>
  unfold Dh;simp only[gy,iz,true_and];split
  ·rename_i hu;have hu:jh=true:=hu;have:=h2 hu;split
   ·exact⟨bm 0,by simp,h.bo,h.t0,h.d0,h.l0,(λhh=>by simp[gH]at hh),(λ_ hh=>by simp[gH]at hh)⟩
   ·rename_i h48;exact⟨h.bw,(by dsimp only;omega),h.bo,h.t0,h.d0,h.l0,(λ_=>by dsimp only;omega),(λhh=>by dsimp only at hh;rw[hu]at hh;cases hh)⟩
  ·rename_i hu;have hu:jh=false:=by simpa using hu
   have:=h3 hu (hm hu);split
   ·exact⟨bm 0,(by simp[gH];omega),h.bo,h.t0,h.d0,h.l0,(λhh=>by simp[gH]at hh),(λ_ hh=>by simp[gH]at hh)⟩
   ·rename_i h16;have hk:ry ⟨jh,vd,bw,n+1,bo,t0,d0,l0⟩:=⟨h.bw,(by dsimp only;omega),h.bo,h.t0,h.d0,h.l0,(λhh=>by dsimp only at hh;rw[hu]at hh;cases hh),(λ_ _=>by dsimp only;omega)⟩;split
    ·exact hk.XW hs
    ·exact hk
theorem ry.dE(h:ry q)(hs:oi s):ry (yk q o s):=by
 unfold yk;split
 ·split
  ·exact ry.begin h.bw (oT h.bo hs.bo) hs
  ·exact h.add hs
 ·rename_i h0;split
  ·exact(h.add hs).lZ
  ·exact Wh (h.add hs) hs (λhu=>by
    have hu:q.jh=false:=hu;cases hm:q.vd with
    |false=>exact absurd ⟨hu,hm⟩ h0
    |true=>exact hm)
end gM

namespace fK
open bH gM
structure Md where
 w:Wn
 r:SG
 p:Pp
 c:Cy
 b:Pb
 q:Pl
 bt:Int
 mode:Int
 ba:Int
 cN:Int
 gP:Int
 mn:Bool
 first:Bool
 kj:Int
structure gr(m:Md):Prop where
 w:va m.w
 r:LF m.r
 p:WX m.p
 c:yo m.c
 b:JC m.b
 q:ry m.q
 bt:100≤m.bt∧m.bt≤9000
 mode:0≤m.mode∧m.mode≤3
 ba:U m.ba
 cN:U m.cN
 gP:U m.gP
 kj:U m.kj
def zJ(m:Md):Int:=if m.q.jh then m.q.bw else m.w.v0
def sv(m:Md)(g:Int):Int:=CF (zJ m) m.b.dy g
def fF(m:Md):Int:=if m.mode=0 then 739 else if m.mode=1 then 88 else if m.mode=2∧m.q.jh=false then cG m.c else 256
def jY(m:Md):Int:=if m.mode=2 then 512 else if m.mode=3 then 256 else 739
def jw(m:Md):Int:=4*m.bt
theorem gr.bw(h:gr m):U (zJ m):=by
 unfold zJ;split
 ·exact h.q.bw
 ·exact h.w.v0
theorem Zm(c):U (cG c):=by
 unfold cG;split
 ·exact bm _
 ·split<;>exact bm _
theorem Ge(m):U (fF m):=by
 unfold fF;split
 ·exact bm _
 ·split
  ·exact bm _
  ·split
   ·exact Zm _
   ·exact bm _
theorem Gg(m):U (jY m):=by
 unfold jY;split
 ·exact bm _
 ·split<;>exact bm _
theorem gr.Rt(h:gr m):U m.bt:=by have:=h.bt;unfold U;omega
theorem gr.floor(h:gr m):U (jw m):=by have:=h.bt;unfold U jw;omega
def mK(s:Sm):Int:=qN (dX (gO s) (FR s)) 1000000000 (AQ s)
def fh(m:Md)(s:Sm):Md:=if fE s=0∨AQ s=0 then m else if rG s=false∨mK s≥m.w.v0 then{m with w:=A5 m.w m.r.n (mK s)}else m
def iD(m:Md)(s:Sm):Md:=if m.mode=2∧m.q.jh=false then{m with c:=cU m.c (iT s) m.b.dy (gT s) (kO s) (sv m 320) (sv m 256)}else m
abbrev kG(m:Md)(o:Bool)(s:Sm):Md:={m with p:=pU m.p o (rG s) m.w.v0}
abbrev eW(m:Md)(aj:Int):Md:={m with mode:=2,c:=Mu aj 2}
def rD(m:Md):Md:=if m.mode=0∧m.p.full=true then{m with mode:=1}else m
def tm(m:Md)(s:Sm):Md:=if m.mode=1∧m.b.dy>0∧kO s≤sv m 256 then eW m (iT s)else m
abbrev gw(m:Md):Md:={m with cN:=if m.gP>m.cN then m.gP else m.cN,gP:=0}
abbrev Bc(m:Md)(s:Sm)(o:Bool):(Bool×Bool)×Pb:=bU m.b (iT s) (OP s) o (kO s) (jw m)
def iE(m:Md)(r:Bool×Bool)(aj:Int):Md:=
 if r.1 then{m with gP:=if m.cN>m.gP then m.cN else m.gP,mode:=3}
 else if r.2 then(if m.p.full then eW {gw m with mode:=0} aj else{gw m with mode:=0})
 else m
def mz(m:Md)(s:Sm)(o:Bool):Md:=iE {m with b:=(Bc m s o).2} (Bc m s o).1 (iT s)
def Kw(m:Md):Int:=if 1>AA (zJ m) (fF m)then 1 else AA (zJ m) (fF m)
def dT(m:Md):Md:=if zJ m=0 then m else if m.p.full=true∨Kw m>m.ba then{m with ba:=Kw m}else m
def kF(m:Md):Md:=if m.mode≠3 then gw {m with mn:=false,first:=false}else{m with mn:=false,first:=false}
def bz(m:Md)(s:Sm)(o:Bool):Md:=
 if gT s>0∧m.mn=false then{m with mn:=true,first:=true,kj:=bJ (gO s) (kO s),gP:=if m.cN>m.gP then m.cN else m.gP}
 else if m.mn=true then(if gO s<m.kj then{m with first:=m.first&&!o}else kF {m with first:=m.first&&!o})
 else m
abbrev yi(m:Md)(s:Sm):Md:={m with cN:=if m.bt>dX m.cN (gT s)then m.bt else dX m.cN (gT s)}
def ox(m:Md)(tso:Int):Int:=BA (zJ m) m.b.dy (jY m) tso m.bt
def tY(m:Md)(s:Sm)(tso:Int):Md:=
  if m.first then{m with cN:=if bJ (kO s) (fE s)>m.cN then bJ (kO s) (fE s)else m.cN}
  else if fE s>0 then
    (if m.p.full then{m with cN:=if ox m tso<bJ m.cN (fE s)then ox m tso else bJ m.cN (fE s)}
     else if m.cN<ox m tso∨gO s<10*m.bt then{m with cN:=bJ m.cN (fE s)}else m)
  else m
abbrev Ed(m:Md):Md:={m with cN:=if jw m>m.cN then jw m else m.cN}
def Kx(m:Md):Md:=if m.mode=3 then{m with cN:=jw m}else m
def eO(m:Md)(s:Sm)(tso:Int):Md:=Kx (Ed (tY (yi m s) s tso))
abbrev Ec(m:Md)(s:Sm):Md:={m with r:=rU m.r s,q:=yk m.q (rB m.r s) s}
def Rn(m:Md)(o:Bool)(s:Sm):Md:=mz (tm (rD (kG (iD (fh m s) s) o s)) s) s o
def Np(m:Md)(o:Bool)(s:Sm)(tso:Int):Md:=eO (bz (dT m) s o) s tso
def pM(m:Md)(s:Sm)(tso:Int):Md:=Np (Rn (Ec m s) (rB m.r s) s) (rB m.r s) s tso
abbrev St:Type:=Int×Int×Int×Int×Int×Int×Int×Int×Bool×Bool
def GW(m:Md):St:=(m.mode,m.c.ph,m.ba,m.cN,zJ m,m.b.dy,fF m,m.r.n,m.p.full,m.q.jh)
theorem Bk[Decidable p]{a b:Int}(ha:U a)(hb:U b):U (if p then a else b):=by split<;>assumption
theorem gr.Rp(h:gr m)(hs:oi s):gr (fh m s):=by
 unfold fh;split
 ·exact h
 ·split
  ·exact{h with w:=h.w.A5 h.r.n (yS (nB hs.del hs.pri) (bm _) hs.Xj)}
  ·exact h
theorem gr.XR(h:gr m)(hs:oi s):gr (iD m s):=by
 unfold iD;split
 ·exact{h with c:=h.c.cU hs.aj}
 ·exact h
theorem gr.pipe(h:gr m):gr (kG m o s):={h with p:=h.p.pU h.w.v0}
theorem gr.Mw(h:gr m){aj:Int}(hn:U aj):gr (eW m aj):={h with c:=yo.st hn,mode:=by simp[eW]}
theorem gr.m1(h:gr m):gr (rD m):=by
 unfold rD;split
 ·exact{h with mode:=by simp}
 ·exact h
theorem gr.m2(h:gr m)(hs:oi s):gr (tm m s):=by
 unfold tm;split
 ·exact h.Mw hs.aj
 ·exact h
theorem gr.back(h:gr m):gr (gw m):={h with cN:=Bk h.gP h.cN,gP:=bm 0}
theorem gr.Wg{m:Md}(h:gr m){r:Bool×Bool}{aj:Int}(hn:U aj):gr (iE m r aj):=by
 unfold iE;split
 ·exact{h with gP:=Bk h.cN h.gP,mode:=by simp}
 ·split
  ·have hb:gr {gw m with mode:=0}:={h.back with mode:=by simp};split
   ·exact hb.Mw hn
   ·exact hb
  ·exact h
theorem gr.look(h:gr m)(hs:oi s):gr (mz m s o):=by
 have:gr {m with b:=(Bc m s o).2}:={h with b:=h.b.bU hs.aj hs.bT};exact this.Wg hs.aj
theorem Zn(h:gr m):U (Kw m):=Bk (bm 1) (LL h.bw (Ge m))
theorem gr.RK(h:gr m):gr (dT m):=by
 unfold dT;split
 ·exact h
 ·split
  ·exact{h with ba:=Zn h}
  ·exact h
theorem gr.recover(h:gr m)(hs:oi s):gr (bz m s o):=by
 unfold bz;split
 ·exact{h with kj:=oT hs.del hs.W8,gP:=Bk h.cN h.gP}
 ·split
  ·split
   ·exact{h with}
   ·unfold kF;have h2:gr {m with mn:=false,first:=false}:={h with};split
    ·exact h2.back
    ·exact h2
  ·exact h
theorem gr.w1(h:gr m)(hs:oi s):gr (yi m s):={h with cN:=Bk h.Rt (nB h.cN hs.bo)}
theorem gr.tar(h:gr m){tso:Int}(ht:U tso):U (ox m tso):=Xx h.bw h.b.dy (Gg m) ht h.Rt
theorem gr.w2(h:gr m)(hs:oi s){tso:Int}(ht:U tso):gr (tY m s tso):=by
 unfold tY;split
 ·exact{h with cN:=Bk (oT hs.W8 hs.Ep) h.cN}
 ·split
  ·split
   ·exact{h with cN:=Bk (h.tar ht) (oT h.cN hs.Ep)}
   ·split
    ·exact{h with cN:=oT h.cN hs.Ep}
    ·exact h
  ·exact h
theorem gr.w3(h:gr m):gr (Ed m):={h with cN:=Bk h.floor h.cN}
theorem gr.w4(h:gr m):gr (Kx m):=by
 unfold Kx;split
 ·exact{h with cN:=h.floor}
 ·exact h
theorem gr.kP(h:gr m)(hs:oi s){tso:Int}(ht:U tso):gr (eO m s tso):=((h.w1 hs).w2 hs ht).w3.w4
theorem gr.u1(h:gr m)(hs:oi s):gr (Ec m s):={h with r:=h.r.rU hs,q:=h.q.dE hs}
theorem gr.dE(h:gr m)(hs:oi s){tso:Int}(ht:U tso):gr (pM m s tso):=
 (((((((h.u1 hs).Rp hs).XR hs).pipe.m1.m2 hs).look hs).RK.recover hs).kP hs ht)
def nn(n:Int):Int:=if 9000<(if 100>n then 100 else n)then 9000 else(if 100>n then 100 else n)
abbrev mM(n:Int):Md:={w:=⟨10,0,0,0,0,0,0,0⟩,r:=⟨0,0⟩,p:=⟨0,0,false⟩,c:=⟨0,0⟩,b:=⟨0,0,false,0,false⟩,q:=⟨false,false,0,0,0,0,0,0⟩,bt:=nn n,mode:=0,ba:=AA (10*nn n*1000) 739,cN:=10*nn n,gP:=0,mn:=false,first:=false,kj:=0}
theorem IZ(n:Int):100≤nn n∧nn n≤9000:=by unfold nn;split<;>split<;>omega
theorem gr.new(n:Int):gr (mM n):=by
 have:=IZ n;exact{w:=⟨bm 10,bm 0,bm 0,bm 0,bm 0,bm 0,bm 0,bm 0⟩,r:=⟨bm 0,bm 0⟩,p:=⟨bm 0,(by simp[mM]),λ_=>by simp[mM]⟩,c:=⟨(by simp[mM]),bm 0⟩,b:=⟨bm 0,bm 0,bm 0⟩,q:=⟨bm 0,(by simp[mM]),bm 0,bm 0,bm 0,bm 0,(λh=>by simp[mM]at h),λ_ h=>by simp[mM]at h⟩,bt:=this,mode:=(by simp[mM]),ba:=LL ⟨by omega,by omega⟩ (bm 739),cN:=⟨(by show 0≤10*nn n;omega),by show 10*nn n<_;omega⟩,gP:=bm 0,kj:=bm 0}
end fK

namespace PH
open bH gM fK
structure oL(a b:Md):Prop where
 bt:b.bt=a.bt
 ba:b.ba=a.ba
theorem oL.trans(h:oL a b)(g:oL b c):oL a c:=⟨g.bt.trans h.bt,g.ba.trans h.ba⟩
theorem GR(m s):oL m (fh m s):=by
 unfold fh;repeat' split
 all_goals exact⟨rfl,rfl⟩
theorem X4(m s):oL m (iD m s):=by unfold iD;split<;>exact⟨rfl,rfl⟩
theorem aah(m):oL m (rD m):=by unfold rD;split<;>exact⟨rfl,rfl⟩
theorem aai(m s):oL m (tm m s):=by unfold tm;split<;>exact⟨rfl,rfl⟩
theorem M4(m r)(aj:Int):oL m (iE m r aj):=by
 unfold iE;repeat' split
 all_goals exact⟨rfl,rfl⟩
theorem V0(m s o):oL m (mz m s o):=(⟨rfl,rfl⟩:oL m {m with b:=(Bc m s o).2}).trans (M4 _ _ _)
theorem M5(m s o):oL m (bz m s o):=by
 unfold bz kF;repeat' split
 all_goals exact⟨rfl,rfl⟩
theorem aaj(m o s):oL m (Rn m o s):=by
 have a:oL (iD (fh m s) s) (kG (iD (fh m s) s) o s):=⟨rfl,rfl⟩;exact((GR m s).trans (X4 _ s)).trans (a.trans (((aah _).trans (aai _ s)).trans (V0 _ s o)))
theorem NL(m):(dT m).bt=m.bt:=by
 unfold dT;repeat' split
 all_goals rfl
end PH

namespace Tt
open bH gM fK PH
structure Inv(m:Md):Prop where
 on:m.b.on=true↔m.mode=3
 full:m.mode=1∨m.mode=2→m.p.full=true
structure Tr(a b:Md):Prop where
 t0:a.mode≠0→a.mode≠3→b.mode≠0
 t2:a.mode=2→b.mode≠1
 t3:a.mode=3→b.mode≠1
 tf:a.p.full=true→b.p.full=true
 inv:Inv b
 n:b.r.n=a.r.n∨b.r.n=u64.wrap (a.r.n+1)
end Tt

namespace Eg
open bH gM fK PH Tt
structure Bd(m:Md)(t:Int):Prop where
 cN:m.cN≤t
 gP:m.gP≤t
theorem B4{p:Prop}[Decidable p]{a b t:Int}(ha:a≤t)(hb:b≤t):(if p then a else b)≤t:=by split<;>assumption
theorem TG{t:Int}(h:Bd m t)(s:Sm):Bd (fh m s) t:=by unfold fh;(repeat' split)<;>exact⟨h.cN,h.gP⟩
theorem XA{t:Int}(h:Bd m t)(s:Sm):Bd (iD m s) t:=by unfold iD;split<;>exact⟨h.cN,h.gP⟩
theorem Zr{t:Int}(h:Bd m t):Bd (rD m) t:=by unfold rD;split<;>exact⟨h.cN,h.gP⟩
theorem Zs{t:Int}(h:Bd m t)(s:Sm):Bd (tm m s) t:=by unfold tm;split<;>exact⟨h.cN,h.gP⟩
theorem LP{t:Int}(h:Bd m t)(h0:0≤t)(r:Bool×Bool)(aj:Int):Bd (iE m r aj) t:=by
 unfold iE;split
 ·exact⟨h.cN,B4 h.cN h.gP⟩
 ·split
  ·split
   ·exact⟨B4 h.gP h.cN,h0⟩
   ·exact⟨B4 h.gP h.cN,h0⟩
  ·exact h
theorem TF{t:Int}(h:Bd m t)(h0:0≤t)(s:Sm)(o:Bool):Bd (mz m s o) t:=by
 have:Bd {m with b:=(Bc m s o).2} t:=⟨h.cN,h.gP⟩;exact LP this h0 _ _
theorem TH{t:Int}(h:Bd m t):Bd (dT m) t:=by unfold dT;(repeat' split)<;>exact⟨h.cN,h.gP⟩
theorem XB{t:Int}(h:Bd m t)(h0:0≤t)(s:Sm)(o:Bool):Bd (bz m s o) t:=by
 unfold bz kF;split
 ·exact⟨h.cN,B4 h.cN h.gP⟩
 ·split
  ·split
   ·exact⟨h.cN,h.gP⟩
   ·split
    ·exact⟨B4 h.gP h.cN,h0⟩
    ·exact⟨h.cN,h.gP⟩
  ·exact h
theorem TB{a b t:Int}(h:a≤t):bJ a b≤bJ t b:=by unfold bJ;(repeat' split)<;>omega
theorem V5{t b:Int}(h:U t)(hb:U b):t≤bJ t b:=by unfold U bJ at*;split<;>omega
theorem sub_le{a b:Int}(h:U a)(hb:U b):dX a b≤a:=by unfold U dX at*;split<;>omega
def PC(x t:Int)(s:Sm):Prop:=x≤bJ t (fE s)∨x≤bJ (kO s) (fE s)
theorem NA[Decidable p]{a b t:Int}(ha:PC a t s)(hb:PC b t s):PC (if p then a else b) t s:=by split<;>assumption
theorem Yz{t:Int}(h:Bd m t)(hm:gr m)(ht:U t)(h4:4*m.bt≤t)(hs:oi s)(tso:Int):PC (eO m s tso).cN t s∧(eO m s tso).gP≤t:=by
 have hmss:=hm.bt;have hv:Bd (yi m s) t:=⟨B4 (by omega) (xn (sub_le hm.cN hs.bo) h.cN),h.gP⟩;have hvm:(yi m s).bt=m.bt:=rfl;unfold eO;generalize yi m s=v at*
 have tl:t≤bJ t (fE s):=V5 ht hs.Ep;have vl:PC v.cN t s:=.inl (xn hv.cN tl);have al:PC (bJ v.cN (fE s)) t s:=.inl (TB hv.cN);have hx:PC (tY v s tso).cN t s∧(tY v s tso).gP≤t∧(tY v s tso).bt=v.bt:=by
  unfold tY;split
  ·exact⟨NA (.inr (gQ _)) vl,hv.gP,rfl⟩
  ·split
   ·split
    ·refine⟨?_,hv.gP,rfl⟩;show PC (if ox v tso<bJ v.cN (fE s)then ox v tso else bJ v.cN (fE s)) t s;split
     ·rename_i hlt;rcases al with a|a
      ·exact .inl (by omega)
      ·exact .inr (by omega)
     ·exact al
    ·split
     ·exact⟨al,hv.gP,rfl⟩
     ·exact⟨vl,hv.gP,rfl⟩
   ·exact⟨vl,hv.gP,rfl⟩
 generalize tY v s tso=x at*
 obtain⟨x1,x2,x3⟩:=hx;have fl:PC (4*x.bt) t s:=.inl (by rw[x3,hvm];omega);unfold Kx;split
 ·exact⟨fl,x2⟩
 ·exact⟨NA fl x1,x2⟩
theorem Yu{t:Int}(h:Bd m t)(hm:gr m)(ht:U t)(h4:4*m.bt≤t)(hs:oi s)(tso:Int):PC (pM m s tso).cN t s∧(pM m s tso).gP≤t:=by
 have b1:Bd (Ec m s) t:=⟨h.cN,h.gP⟩;have b2:=XA (TG b1 s) s;have b3:Bd (kG (iD (fh (Ec m s) s) s) (rB m.r s) s) t:=⟨b2.cN,b2.gP⟩;have b4:=XB (TH (TF (Zs (Zr b3) s) ht.1 s (rB m.r s))) ht.1 s (rB m.r s);have o4:gr (bz (dT (Rn (Ec m s) (rB m.r s) s)) s (rB m.r s)):=(((((((hm.u1 hs).Rp hs).XR hs).pipe.m1.m2 hs).look hs).RK.recover hs));have e:(bz (dT (Rn (Ec m s) (rB m.r s) s)) s (rB m.r s)).bt=m.bt:=by rw[(M5 _ s _).bt,NL,(aaj _ _ s).bt]
 exact Yz (m:=bz (dT (Rn (Ec m s) (rB m.r s) s)) s (rB m.r s)) b4 o4 ht (by rw[e];exact h4) hs tso
end Eg

namespace ad
open gM fK
abbrev gD(v:Wn):List Lf:=[aB v.w,aB v.t0,aB v.v0,aB v.t1,aB v.v1,aB v.t2,aB v.v2,aB v.la]
abbrev jK(v:SG):List Lf:=[aB v.n,aB v.nx]
abbrev jA(v:Pp):List Lf:=[aB v.dy,aE v.n,bc v.full]
abbrev iV(v:Cy):List Lf:=[aE v.ph,aB v.lg]
abbrev jk(v:Pb):List Lf:=[aB v.dy,aB v.lg,bc v.on,aB v.kj,bc v.rd]
abbrev gz(v:Pl):List Lf:=[bc v.jh,bc v.vd,aB v.bw,aE v.n,aB v.bo,aB v.t0,aB v.d0,aB v.l0]
abbrev ig(n1 n2 n3 n4 n5 n6:Nat)(v:Md):List Lf:=[.ptr (some ⟨n1,0⟩),.ptr (some ⟨n2,0⟩),.ptr (some ⟨n3,0⟩),.ptr (some ⟨n4,0⟩),.ptr (some ⟨n5,0⟩),.ptr (some ⟨n6,0⟩),aB v.bt,aE v.mode,aB v.ba,aB v.cN,aB v.gP,bc v.mn,bc v.first,aB v.kj]
abbrev eg(v:Wn):List Lf:=[aB v.w,aB v.t0,aB v.t1,aB v.t2,aB v.v0,aB v.v1,aB v.v2,aB v.la,bc false]
end ad
namespace yb
open gM fK
structure Rm where
 m:Md
 set:Bool
 pN:Int
 g:Int
end yb
namespace ad
open gM fK
abbrev db(nw:Nat)(v:yb.Rm):List Lf:=[aB v.m.bt,.ptr (some ⟨nw,0⟩),aB v.m.r.n,aB v.m.r.nx,aB v.m.p.dy,aE v.m.p.n,bc v.m.p.full,aE v.m.c.ph,aB v.m.c.lg,aB v.m.b.dy,aB v.m.b.lg,bc v.m.b.on,bc v.set,bc v.m.b.rd,aB v.pN,bc v.m.q.jh,bc v.m.q.vd,aB v.m.q.bw,aE v.m.q.n,aB v.m.q.bo,aB v.m.q.t0,aB v.m.q.d0,aB v.m.q.l0,aE v.m.mode,aB v.m.ba,aB v.m.cN,aB v.g,bc v.m.mn,bc v.m.first,aB v.m.kj,aB v.m.gP]
end ad

namespace PN
def dg(n:Int):List UInt8:=_root_.Go.Lib.decDigits n.toNat
def bA(l:List UInt8):ByteArray:=⟨l.toArray⟩
theorem rV(a b):bA a++bA b=bA (a++b):=by
 apply ByteArray.ext;simp[bA,ByteArray.data_append]
theorem qG(l):(bA l).size=l.length:=by
 show l.toArray.size=_;simp
abbrev Sg:=Int×Int×Int×Int×Bool
def R8(s:Sg):List UInt8:=dg s.1++[58]++dg s.2.1++[58]++dg s.2.2.1
def tD(sign:List UInt8)(l:List Sg):List UInt8:=l.flatMap λs=>sign++R8 s
theorem OW{sign:List UInt8}{l:List Sg}{i:Nat}{x:Sg}(h:l[i]?=some x):tD sign (l.take (i+1))=tD sign (l.take i)++(sign++R8 x):=by unfold tD;rw[lC,h];simp
abbrev Ot:=List Sg×List Sg×Int
def NI(o:Ot):List UInt8:=tD [32,43] o.1++(tD [32,45] o.2.1++(if o.2.2=0 then []else [32,64]++dg o.2.2))
def Xb(os:List Ot)(i:Nat)(e:Int):List UInt8:=dg e++((match os[i]? with
 |some o=>NI o
 |none=>[])++[10])
def A2(os:List Ot)(es:List Int):Nat→List UInt8
 |0=>[]
 |n+1=>A2 os es n++Xb os n (es.getD n 0)
def txF(os:List Ot)(es:List Int):List UInt8:=A2 os es es.length
theorem pE{n:Int}(h:n<18446744073709551616):(dg n).length≤20:=by
 unfold dg;rw[_root_.Go.Lib.decDigits_length];by_cases h1:1≤n.toNat
 ·have:=_root_.Go.Lib.numDigits_eq n.toNat h1 (by omega);split at this<;>omega
 ·have:n.toNat=0:=by omega
  rw[this,_root_.Go.Lib.nDigits_small (by decide)];decide
structure oi(s:Sg):Prop where
 k:s.1<9223372036854775808
 f:0≤s.2.1∧s.2.1<18446744073709551616
 n:s.2.2.1<9223372036854775808
theorem Jc(h:oi s):(R8 s).length≤62:=by
 have h1:=pE (n:=s.1) (by have:=h.k;omega);have h2:=pE h.f.2;have h3:=pE (n:=s.2.2.1) (by have:=h.n;omega);unfold R8;simp only[gp,gg,kb];omega
theorem tF(hs:sign.length≤2):∀{l:List Sg},(∀s∈l,oi s)→(tD sign l).length≤64*l.length
 |[],_=>gJ _
 |x::l,h=>by
  have h1:=Jc (h x (pq ..));have h2:=tF hs (l:=l) (λs hs=>h s (nb _ hs));have e:tD sign (x::l)=sign++R8 x++tD sign l:=by unfold tD;simp
  rw[e];simp only[gp,gg];omega
structure Xp(o:Ot):Prop where
 a:∀s∈o.1,oi s
 b:∀s∈o.2.1,oi s
 w:0≤o.2.2∧o.2.2<18446744073709551616
 la:o.1.length≤100000
 lb:o.2.1.length≤100000
theorem Fk(h:Xp o):(NI o).length≤12800022:=by
 have h1:=tF (sign:=[32,43]) (by decide) h.a;have h2:=tF (sign:=[32,45]) (by decide) h.b;have h3:=pE h.w.2;have:=h.la;have:=h.lb;unfold NI;simp only[gp];split
 ·simp only[kb];omega
 ·simp only[gp,gg,kb];omega
theorem Rk(h:∀o∈os,Xp o)(i){e:Int}(he:e<18446744073709551616):(Xb os i e).length≤12800043:=by
 have h1:=pE he;unfold Xb;simp only[gp,gg,kb];split
 ·rename_i o ho;have:=Fk (h o (gI ho));omega
 ·simp only[kb];omega
theorem D2(h:∀o∈os,Xp o){es:List Int}(he:∀e∈es,e<18446744073709551616):∀n,(A2 os es n).length≤12800043*n
 |0=>eE _
 |n+1=>by
  have h1:=D2 h he n;have h2:=Rk h n (e:=es.getD n 0) (by
   rw[nJ];cases hh:es[n]? with
   |none=>show(0:Int)<_;decide
   |some x=>exact he x (gI hh))
  unfold A2;rw[gp];omega
theorem WD{es:List Int}{e:Int}(h:es[i]?=some e):A2 os es (i+1)=A2 os es i++Xb os i e:=by
 show A2 os es i++Xb os i (es.getD i 0)=_;rw[nJ,h];rfl
end PN

end Go.X
