/- Words. -/
import Derived.Test.YtniflenfpbbikaaGreatDoorK
import Derived.Test.YtniflenfpbbikaaGreatDoorProg
set_option linter.all false
namespace Go.X
open IntKind (u64 i64)
open Go.Proofs
noncomputable abbrev A_:Program:=Tryz.prog
structure bx(rs:List Sh) where
 f:FuncId
 a:List V1
abbrev vs(x:Sl):V1:=.lf (.sl x)
abbrev bQ{rs:List Sh}(c:bx rs)(K:Rs.T rs→WP):WP:=call A_ c.f c.a rs K
abbrev aU(c:bx [qu])(K:Int→WP):WP:=bQ c K
abbrev bq(c:bx [qi])(K:Int→WP):WP:=bQ c K
abbrev cg(c:bx [qb])(K:Bool→WP):WP:=bQ c K
abbrev lY(c:bx [qp])(K:bO→WP):WP:=bQ c K
abbrev cj(c:bx [])(K:Unit→WP):WP:=bQ c K
abbrev dn(p:Pt)(A:Int→WP):WP:=ld ci p A
abbrev bI(p:Pt)(A:Int→WP):WP:=ld cu p A
abbrev te(p:Pt)(A:bO→WP):WP:=ld cp p A
abbrev rC(p:Pt)(A:Bool→WP):WP:=ld cb p A
abbrev eP(p:Pt)(A:Sl→WP):WP:=ld cl p A
abbrev gY(q:Pt)(o:Nat)(A:Int→WP):WP:=ld ci ⟨q.b,q.o+o⟩ A
abbrev dD(q:Pt)(o:Nat)(A:Int→WP):WP:=ld cu ⟨q.b,q.o+o⟩ A
abbrev ga(q:Pt)(o:Nat)(A:bO→WP):WP:=ld cp ⟨q.b,q.o+o⟩ A
abbrev oI(q:Pt)(o:Nat)(A:Bool→WP):WP:=ld cb ⟨q.b,q.o+o⟩ A
abbrev jn(q:Pt)(o:Nat)(A:Sl→WP):WP:=ld cl ⟨q.b,q.o+o⟩ A
abbrev GS(q:Pt)(o:Nat)(x:Int)(A:WP):WP:=ct ⟨q.b,q.o+o⟩ (Ks.mk ci x) A
abbrev lJ(q:Pt)(o:Nat)(x:Int)(A:WP):WP:=ct ⟨q.b,q.o+o⟩ (Ks.mk cu x) A
abbrev lI(q:Pt)(o:Nat)(x:bO)(A:WP):WP:=ct ⟨q.b,q.o+o⟩ (Ks.mk cp x) A
abbrev Y3(q:Pt)(o:Nat)(x:Bool)(A:WP):WP:=ct ⟨q.b,q.o+o⟩ (Ks.mk cb x) A
abbrev td(q:Pt)(o:Nat)(x:Sl)(A:WP):WP:=ct ⟨q.b,q.o+o⟩ (Ks.mk cl x) A
class bF{rs:List Sh}(c:bx rs)(W:outParam ((Rs.T rs→WP)→WP)):Prop where
 cx:∀R w,W R w→CW A_ c.f c.a rs R w
class PJ{rs:List Sh}(c:bx rs)(W:outParam (Nat→(Rs.T rs→WP)→WP)):Prop where
 cx:∀R w,W w.heap.size R w→CW A_ c.f c.a rs R w
abbrev bu{rs:List Sh}(c:bx rs)(A:SP)(B:Rs.T rs→SP):Prop:=tT A_ c.f c.a rs A B
theorem bC{rs:List Sh}{c:bx rs}{A:SP}{B:Rs.T rs→SP}{W:(Rs.T rs→WP)→WP}[i:bF c W](h:∀w S R,au w S R w A→W (λx w'=>au w S R w' (B x)) w):bu c A B:=Tm (λR w=>i.cx R w) h
theorem Tl{rs:List Sh}{c:bx rs}{A:SP}{B:Rs.T rs→SP}{W:Nat→(Rs.T rs→WP)→WP}[i:PJ c W](h:∀w S R,au w S R w A→W w.heap.size (λx w'=>au w S R w' (B x)) w):bu c A B:=Ys (λR w=>i.cx R w) h
theorem bG{rs:List Sh}{c:bx rs}{W:(Rs.T rs→WP)→WP}{fn:Func}(hf:A_.funcs[c.f]?=some fn)(an:F8)(hs:R6 A_ fn an c.a rs=W:=by kernel_rfl)(he:Kg A_ c.f=true:=by kernel_rfl)(hn:Nat.ble c.a.length fn.ntmps=true:=by kernel_rfl):bF c W:=⟨λR _ h=>tV (an:=an) hf he hn ⟨congrFun hs R⟩ h⟩
theorem VK{rs:List Sh}{c:bx rs}{W:Nat→(Rs.T rs→WP)→WP}{fn:Func}(hf:A_.funcs[c.f]?=some fn)(an:F8)(hs:R6 A_ fn an c.a rs=λR w=>W w.heap.size R w:=by kernel_rfl)(he:Kg A_ c.f=true:=by kernel_rfl)(hn:Nat.ble c.a.length fn.ntmps=true:=by kernel_rfl):PJ c W:=⟨λR w h=>tV (A:=λw=>W w.heap.size R w) (an:=an) hf he hn ⟨congrFun hs R⟩ h⟩
def BB:Nat→Nat→Nat×Nat
|0,n=>(0,n)
|k+1,n=>match n%64 with
 |63=>match BB k (n/64)with|(v,m)=>(v+63,m)
 |v=>(v,n/64)
def YC:Nat→Nat→Nat→List Nat×Nat
|_,0,n=>([],n)
|o,c+1,n=>match BB 9 n with|(v,m)=>match YC o c m with|(l,r)=>(cond (Nat.blt v 16) v (v-16+o)::l,r)
def Sx(o:Nat):Nat→Nat→DT×Nat
|0,n=>(.aI,n)
|k+1,n=>match BB 9 n with
 |(32,m)=>(.aI,m)
 |(c,m)=>match Nat.blt c 32 with
  |true=>match Sx o k m with|(r,m)=>(.f c [o+c] r,m)
  |false=>match BB 9 m with|(i,m)=>match YC o ((c-32)/4) m with|(l,m)=>match Sx o k m with
   |(r,m)=>match c%4 with
    |1=>(.f i l r,m)
    |2=>(.w i l r,m)
    |_=>match Sx o k m with|(a,m)=>(.wa i l r a,m)
def Sy:Nat→Nat→List yd×Nat
|0,n=>([],n)
|c+1,n=>match BB 9 n with|(i,m)=>match Sy c (m/64)with|(l,r)=>((i,match m%64 with|0=>.lf (.int .u64)|1=>.lf (.int .i64)|2=>.lf .bool|3=>.lf .ptr|_=>.lf .sl)::l,r)
def WT:Nat→Nat→F8×Nat
|0,n=>(.o,n)
|k+1,n=>match n%2 with
 |0=>(.o,n/2)
 |_=>match WT k (n/2)with
  |(a,m)=>match WT k m with
   |(b,l)=>(.s a b,l)
def F5:Nat→Nat→F8×Nat
|0,n=>(.o,n)
|k+1,n=>match BB 9 n with
 |(0,m)=>(.o,m)
 |(1,m)=>match F5 k m with|(a,m)=>match F5 k m with|(b,m)=>(.s a b,m)
 |(2,m)=>match F5 k m with|(a,m)=>(.b a,m)
 |(3,m)=>match BB 9 m with|(o,m)=>match Sx o 400 m with|(d,m)=>(.d d,m)
 |(4,m)=>match BB 9 m with|(c,m)=>match Sy c m with|(l,m)=>match F5 k m with|(a,m)=>match F5 k m with|(b,m)=>(.j l a b,m)
 |(5,m)=>match BB 9 m with|(c,m)=>match Sy c m with|(l,m)=>match F5 k m with|(a,m)=>(.bj l a,m)
 |(6,m)=>match BB 9 m with|(c,m)=>match Sy c m with|(l,m)=>match F5 k m with|(a,m)=>(.l l a,m)
 |(c,m)=>((WT 99 ([1,5,13,1133,21,3,845,11,53,85,45,75,211,1365,54093,5229,4533,27,4641205,1307,605,349525,283,2741,4525,685,341,3413,19245,289901,19688557,9294669,1205,22113389,93,333,276301,151,77819552231125,2893,331,4633005,13645,18123,1364813,5592405,23,299,46411].getD (c-7) 0)).1,m)
abbrev uz(n:Nat):F8:=(F5 500 n).1
def c3(c:eF)(l:Sl)(raw:Bool):bx [qb]:=⟨3,[.agg (Ks.mk aZ c),.lf (.sl l),.lf (.bool raw)]⟩
def c7(d:eF):bx [.agg aZ]:=⟨7,[.agg (Ks.mk aZ d)]⟩
def c8(l:Sl)(most:Int):bx [qs]:=⟨8,[.lf (.sl l),vi most]⟩
def c9(c:eF)(l:Sl):bx [qs,qs]:=⟨9,[.agg (Ks.mk aZ c),.lf (.sl l)]⟩
def PF(c:eF)(l:Sl):bx [qs,qs]:=⟨10,[.agg (Ks.mk aZ c),.lf (.sl l)]⟩
def P7:bx [qb]:=⟨11,[]⟩
def YL(a b:Sl)(one:Fv):bx [qb]:=⟨12,[.lf (.sl a),.lf (.sl b),.lf (.fn one)]⟩
def c13(a b:BH):bx [qb]:=⟨13,[.agg (Ks.mk dO a),.agg (Ks.mk dO b)]⟩
def YM(a b:Sl):bx [qb]:=⟨14,[.lf (.sl a),.lf (.sl b)]⟩
def Zv(b:Sl):bx [qs]:=⟨15,[.lf (.sl b)]⟩
def YN:bx [.agg aZ]:=⟨16,[]⟩
def Zw(outs errs:Sl):bx [.lf .str]:=⟨17,[.lf (.sl outs),.lf (.sl errs)]⟩
def XG:bx [.agg aZ]:=⟨18,[]⟩
def Zx(d:fM):bx [.agg a_]:=⟨21,[.agg (Ks.mk a_ d)]⟩
def Zy(c:eF):bx [qp,qi]:=⟨22,[.agg (Ks.mk aZ c)]⟩
def Zz(m:bO)(d:fM):bx [.agg dO,qi]:=⟨23,[vp m,.agg (Ks.mk a_ d)]⟩
def ZA(c:eF):bx [qp,qi]:=⟨24,[.agg (Ks.mk aZ c)]⟩
def ZB(m:bO)(d:fM):bx [.agg dO,qi]:=⟨25,[vp m,.agg (Ks.mk a_ d)]⟩
def YO(a b:Sl):bx [qb]:=⟨26,[.lf (.sl a),.lf (.sl b)]⟩
def ZC(a b:Sl):bx [qb]:=⟨27,[.lf (.sl a),.lf (.sl b)]⟩
def ZD(a b:Sl)(one:Fv):bx [qb]:=⟨28,[.lf (.sl a),.lf (.sl b),.lf (.fn one)]⟩
def c29(x y:Int):bx [qb]:=⟨29,[vi x,vi y]⟩
def ZE(d:Zk):bx [.agg a_]:=⟨30,[.agg (Ks.mk Tx d)]⟩
def XM(v:Int):bx [.lf .str]:=⟨32,[vi v]⟩
def YP(sign:ByteArray)(l:Sl):bx [.lf .str]:=⟨33,[.lf (.str sign),.lf (.sl l)]⟩
def ZF(c:eF):bx [qp,qi]:=⟨39,[.agg (Ks.mk aZ c)]⟩
def ZG(lg:Int):bx [qp]:=⟨40,[.lf (.int .u64 lg)]⟩
def ZH:bx [qp]:=⟨41,[]⟩
def ZI(c:bO)(to':Int):bx [qi]:=⟨42,[vp c,.lf (.int .u64 to')]⟩
def ZJ(m o:bO):bx []:=⟨43,[vp m,vp o]⟩
def ZK(m:bO)(c:eF):bx [qi]:=⟨44,[vp m,.agg (Ks.mk aZ c)]⟩
def ZL(d:bO)(o:fM)(a:bO):bx [qi]:=⟨45,[vp d,.agg (Ks.mk a_ o),vp a]⟩
def YQ(d:eF):bx [qb]:=⟨46,[.agg (Ks.mk aZ d)]⟩
def ZM(d:bO)(o:fM):bx [.agg dO,qi]:=⟨47,[vp d,.agg (Ks.mk a_ o)]⟩
def ZN(d:bO):bx [.agg dO]:=⟨48,[vp d]⟩
def ZO(a b:Sl)(one:Fv):bx [qb]:=⟨49,[.lf (.sl a),.lf (.sl b),.lf (.fn one)]⟩
def c50(x y:km):bx [qb]:=⟨50,[.agg (Ks.mk aX x),.agg (Ks.mk aX y)]⟩
def ZP(a b:Sl)(one:Fv):bx [qb]:=⟨51,[.lf (.sl a),.lf (.sl b),.lf (.fn one)]⟩
def c52(x y:Int):bx [qb]:=⟨52,[vi x,vi y]⟩
def YR(c:eF):bx [qb]:=⟨56,[.agg (Ks.mk aZ c)]⟩
def ZQ:bx [qp]:=⟨57,[]⟩
def ZR(n:Int):bx [qp]:=⟨58,[vi n]⟩
def ZS(l:Sl):bx [qu]:=⟨59,[.lf (.sl l)]⟩
def W4(d:bO)(o:Int)(a:Sl):bx [.agg aX,qb]:=⟨60,[vp d,vu o,.lf (.sl a)]⟩
def VE(m:bO):bx [qu]:=⟨61,[vp m]⟩
def XN(m:bO):bx [qs]:=⟨62,[vp m]⟩
def SR(l:bO)(sock fate:Int):bx [qi]:=⟨63,[vp l,vi sock,vi fate]⟩
def W5(q:bO):bx [qu,qb]:=⟨64,[vp q]⟩
def ZT(q:bO)(c:eF):bx [qi]:=⟨65,[vp q,.agg (Ks.mk aZ c)]⟩
def ZU(i:Int):bx [qb]:=⟨66,[vi i]⟩
def ZV(id:Int)(c:eF):bx [qp]:=⟨67,[vi id,.agg (Ks.mk aZ c)]⟩
def ZW(m:bO)(i:Int)(o:bO):bx []:=⟨68,[vp m,vi i,vp o]⟩
def ZX(s:bO)(d:fM)(aj:Int):bx [qi]:=⟨69,[vp s,.agg (Ks.mk a_ d),vu aj]⟩
def ZY(m:bO)(i:Int)(o:bO):bx []:=⟨70,[vp m,vi i,vp o]⟩
def ZZ(id:Int)(c:eF):bx [qp]:=⟨71,[vi id,.agg (Ks.mk aZ c)]⟩
def Z0(m:bO)(i:Int):bx [.agg dO]:=⟨72,[vp m,vi i]⟩
def YS(b:bO)(n:Int):bx [qi]:=⟨73,[vp b,vi n]⟩
def Z1(d:bO)(o a:Int)(a':Sl):bx [qi]:=⟨74,[vp d,vu o,vu a,.lf (.sl a')]⟩
def Z2(s:bO)(aj:Int):bx []:=⟨75,[vp s,vu aj]⟩
def VF(s:bO)(n:Int):bx [qi]:=⟨76,[vp s,vi n]⟩
def Z3(d o a:bO):bx []:=⟨77,[vp d,vp o,vp a]⟩
def YT(d:bO)(o:Int)(a:Sl):bx [.agg aX,qb]:=⟨78,[vp d,vu o,.lf (.sl a)]⟩
def VG(b:bO)(sock fate:Int):bx [qi]:=⟨79,[vp b,vi sock,vi fate]⟩
def YU(q:bO):bx [qu,qb]:=⟨80,[vp q]⟩
def Mt(v lo hi:Int):bx [qb]:=⟨87,[vi v,vi lo,vi hi]⟩
def Z4(n:Int):bx [qp]:=⟨88,[vi n]⟩
def Z5(q:bO)(aj:Int):bx []:=⟨89,[vp q,vu aj]⟩
def XO(l:bO):bx [qi,qb,qb]:=⟨90,[vp l]⟩
def YV(l:bO):bx [qb]:=⟨91,[vp l]⟩
def Z6(q:bO):bx [qb]:=⟨92,[vp q]⟩
def YW(l:bO):bx [qb]:=⟨93,[vp l]⟩
def YX(f:bO):bx [qu]:=⟨94,[vp f]⟩
def Z7(d:bO)(o:Int×Int):bx [qi]:=⟨95,[vp d,.agg (Ks.mk cr o)]⟩
def YY(f:bO)(sock:Int):bx [.agg [.int .u64,.int .u64]]:=⟨96,[vp f,vi sock]⟩
def Z8(q f:bO)(aj ba:Int):bx [.agg aX]:=⟨97,[vp q,vp f,vu aj,vu ba]⟩
def Z9(c:bO):bx [qu]:=⟨98,[vp c]⟩
def Z_(s:bO):bx [.agg eH]:=⟨99,[vp s]⟩
def TM(l:bO)(sock:Int):bx [qi]:=⟨100,[vp l,vi sock]⟩
def TN(t:bO):bx [.agg [.int .u64,.int .u64],qb]:=⟨101,[vp t]⟩
def TO(n:Int):bx [qp]:=⟨102,[vi n]⟩
def TP:bx [qp]:=⟨103,[]⟩
def TQ:bx [qp]:=⟨104,[]⟩
def P5(bt:Int):bx [qp]:=⟨105,[vu bt]⟩
def TR(q:bO)(sock:Int):bx [qs]:=⟨106,[vp q,vi sock]⟩
def P6(m o:bO)(s:km)(fate:Int):bx []:=⟨107,[vp m,vp o,.agg (Ks.mk aX s),vi fate]⟩
def TS(s:bO)(n:Int):bx [qi]:=⟨108,[vp s,vi n]⟩
def TT(s:bO)(aj upto:Int)(sacks:Sl):bx [qi]:=⟨109,[vp s,vu aj,vu upto,.lf (.sl sacks)]⟩
def TU(s:bO)(aj:Int):bx [qi]:=⟨110,[vp s,vu aj]⟩
def P8(s:bO)(n:Int):bx [qi]:=⟨111,[vp s,vi n]⟩
def TW(d:bO)(o:Int):bx [.agg aX,qi]:=⟨112,[vp d,vu o]⟩
def TX(q:bO)(s:km)(aj:Int):bx [qi,qi]:=⟨113,[vp q,.agg (Ks.mk aX s),vu aj]⟩
def TY(bt:Int):bx [qp]:=⟨114,[vu bt]⟩
def TZ(q:bO)(i:Int):bx [qs]:=⟨115,[vp q,vi i]⟩
def L2(d:bO)(o:Int)(a:Sl):bx [qs,qu,qi]:=⟨116,[vp d,vu o,.lf (.sl a)]⟩
def T0(b:bO)(upto:Int):bx [qi]:=⟨117,[vp b,vu upto]⟩
def T1(d:bO)(o a:Int)(a':pY):bx []:=⟨118,[vp d,vu o,vu a,.agg (Ks.mk cw a')]⟩
def P9(d:bO)(o:jT)(a:Int):bx [.agg eH]:=⟨119,[vp d,.agg (Ks.mk aW o),vu a]⟩
def P_(d:bO)(o a a':Int):bx [.agg aW]:=⟨120,[vp d,vu o,vu a,.lf (.int .u64 a')]⟩
def JT(b:bO):bx [qu]:=⟨121,[vp b]⟩
def JU(s:bO):bx [qi]:=⟨122,[vp s]⟩
def T2(b:bO):bx [qu]:=⟨123,[vp b]⟩
def Qa(d:bO)(o:Int):bx [.agg aX,qi]:=⟨124,[vp d,vu o]⟩
def T3(d:bO)(o:km)(a:Int):bx [qi,qi]:=⟨125,[vp d,.agg (Ks.mk aX o),vu a]⟩
def L3(q:bO):bx [qi]:=⟨126,[vp q]⟩
def Gn(f:PP):bx [qu]:=⟨127,[.agg (Ks.mk oK f)]⟩
def Gp(q:bO)(i place:Int):bx []:=⟨128,[vp q,vi i,vi place]⟩
def T4(l:bO):bx [qi,qb,qb]:=⟨129,[vp l]⟩
def qH(a b:Int):bx [qu]:=⟨130,[vu a,vu b]⟩
def L4(size ba:Int):bx [qu]:=⟨131,[vi size,vu ba]⟩
def T5(a b:Int):bx [qu]:=⟨132,[vu a,vu b]⟩
def T6(rates:Sl)(i:Int):bx [qu]:=⟨133,[.lf (.sl rates),vi i]⟩
def Qb(t:bO):bx [.lf .fn]:=⟨140,[vp t]⟩
def Qc(d:bO)(o:Int×Int):bx [qi]:=⟨141,[vp d,.agg (Ks.mk cr o)]⟩
def L5(l:bO)(sock:Int)(fresh:Bool):bx [qi]:=⟨142,[vp l,vi sock,.lf (.bool fresh)]⟩
def L6(l:bO):bx [.lf .fn]:=⟨143,[vp l]⟩
def L7(l:bO)(sock:Int):bx [qb]:=⟨144,[vp l,vi sock]⟩
def Qd(t:bO)(k:Int×Int):bx [qs]:=⟨145,[vp t,.agg (Ks.mk cr k)]⟩
def Qe(t:bO)(g_:Sl)(k:Int×Int):bx [qi]:=⟨146,[vp t,.lf (.sl g_),.agg (Ks.mk cr k)]⟩
def Qf(d:bO):bx [qi,qi]:=⟨147,[vp d]⟩
def T7(d:bO)(o:Sl)(a a':Int):bx []:=⟨148,[vp d,.lf (.sl o),vi a,.lf (.int .i64 a')]⟩
def oH(a b:Int):bx [qu]:=⟨149,[vu a,vu b]⟩
def Bm(size ba:Int):bx [qu]:=⟨150,[vi size,vu ba]⟩
def T8(a b:Int):bx [qu]:=⟨151,[vu a,vu b]⟩
def wP(m:bO):bx [.agg eH]:=⟨152,[vp m]⟩
def T9(kP:Int):bx [qp]:=⟨153,[vu kP]⟩
def T_:bx [qp]:=⟨154,[]⟩
def Ua:bx [qp]:=⟨155,[]⟩
def Ub:bx [qp]:=⟨156,[]⟩
def Uc:bx [qp]:=⟨157,[]⟩
def Ud:bx [qp]:=⟨158,[]⟩
def Qg(bw gain:Int):bx [qu]:=⟨159,[vu bw,vu gain]⟩
def Ue(q:bO)(sock:Int):bx [qb]:=⟨160,[vp q,vi sock]⟩
def JV(q:bO)(sock:Int):bx [qi]:=⟨161,[vp q,vi sock]⟩
def Uf(s:Sl):bx [qs]:=⟨162,[.lf (.sl s)]⟩
def Ug(b:bO)(n:Int):bx [qi]:=⟨163,[vp b,vi n]⟩
def Qh(d:bO)(o:Int)(a:Sl):bx [qs,qu,qi]:=⟨164,[vp d,vu o,.lf (.sl a)]⟩
def Uh(b:bO)(upto:Int):bx [qi]:=⟨165,[vp b,vu upto]⟩
def Ui(d:bO)(o a:Int)(a':pY):bx []:=⟨166,[vp d,vu o,vu a,.agg (Ks.mk cw a')]⟩
def Qi(s:bO)(aj bo:Int):bx []:=⟨167,[vp s,vu aj,vu bo]⟩
def Uj(b:bO):bx [qu]:=⟨168,[vp b]⟩
def Uk(d:bO):bx [qi]:=⟨169,[vp d]⟩
def L8(s:bO)(aj flight:Int):bx [.agg cw]:=⟨170,[vp s,vu aj,vu flight]⟩
def Gq(s:bO):bx [qu]:=⟨171,[vp s]⟩
def Ez(b:bO)(s:pY):bx [.agg [.int .u64,.int .u64],qb]:=⟨172,[vp b,.agg (Ks.mk cw s)]⟩
def EA(b:bO)(most:Int):bx [.agg [.int .u64,.int .u64],qb]:=⟨173,[vp b,vi most]⟩
def Bn(s:bO):bx [qi]:=⟨174,[vp s]⟩
def EB(b:bO)(from' to':Int)(s:pY):bx [qi]:=⟨175,[vp b,.lf (.int .u64 from'),.lf (.int .u64 to'),.agg (Ks.mk cw s)]⟩
def Ul(q:bO)(aj:Int):bx []:=⟨176,[vp q,vu aj]⟩
def Um(d o:bO)(a:Int):bx [qi]:=⟨177,[vp d,vp o,vu a]⟩
def Un(d:bO)(o a:Int):bx []:=⟨178,[vp d,vi o,vu a]⟩
def Uo(kP:Int)(least:Bool):bx [qp]:=⟨179,[vu kP,.lf (.bool least)]⟩
def Qj(bw gain:Int):bx [qu]:=⟨180,[vu bw,vu gain]⟩
def Qk(l:bO)(sock:Int):bx [qb]:=⟨181,[vp l,vi sock]⟩
def Up(p:yQ)(l:Sl):bx [qb]:=⟨182,[.agg (Ks.mk aF p),.lf (.sl l)]⟩
def wR(a b:Int):bx [qu]:=⟨183,[vu a,vu b]⟩
def Uq(r:bO)(s:jT):bx [qb]:=⟨184,[vp r,.agg (Ks.mk aW s)]⟩
def Ur(d:bO)(o:Bool)(a:jT):bx []:=⟨185,[vp d,.lf (.bool o),.agg (Ks.mk aW a)]⟩
def Bo(a b c:Int):bx [qu]:=⟨186,[vu a,vu b,vu c]⟩
def Us(d:bO)(o a:Int):bx [qu]:=⟨187,[vp d,vu o,vu a]⟩
def Ut(d:bO)(o:jT)(a:Bool):bx []:=⟨188,[vp d,.agg (Ks.mk aW o),.lf (.bool a)]⟩
def Uu(m:bO):bx [qu,qu]:=⟨189,[vp m]⟩
def CG(m:bO):bx [qu]:=⟨190,[vp m]⟩
def Uv(d:bO)(o:jT)(a:Bool):bx []:=⟨191,[vp d,.agg (Ks.mk aW o),.lf (.bool a)]⟩
def Uw(d:bO)(o:jT)(a a':Int):bx []:=⟨192,[vp d,.agg (Ks.mk aW o),vu a,.lf (.int .u64 a')]⟩
def Ux(m:bO):bx [.agg eH]:=⟨193,[vp m]⟩
def Uy(ba bt:Int):bx [qi]:=⟨194,[vu ba,vi bt]⟩
def Uz(b:bO):bx [.agg [.int .u64,.int .u64],qb]:=⟨195,[vp b]⟩
def UA(s:bO)(flight:Int):bx []:=⟨196,[vp s,vu flight]⟩
def UB(ba tso most:Int):bx [qu]:=⟨197,[vu ba,vi tso,vi most]⟩
def UC(s:bO)(aj flight:Int):bx [.agg cw]:=⟨198,[vp s,vu aj,vu flight]⟩
def UD(b:bO)(s:pY):bx [.agg [.int .u64,.int .u64],qb]:=⟨199,[vp b,.agg (Ks.mk cw s)]⟩
def UE(b:bO)(most:Int):bx [.agg [.int .u64,.int .u64],qb]:=⟨200,[vp b,vi most]⟩
def UF(b:bO)(from' to':Int)(s:pY):bx [qi]:=⟨201,[vp b,.lf (.int .u64 from'),.lf (.int .u64 to'),.agg (Ks.mk cw s)]⟩
def UG(q:bO)(aj:Int):bx []:=⟨202,[vp q,vu aj]⟩
def UH(q:bO):bx [qi]:=⟨203,[vp q]⟩
def L9(l:bO)(sock:Int)(fresh:Bool):bx [qi]:=⟨204,[vp l,vi sock,.lf (.bool fresh)]⟩
def XH(yield:Fv)(c0:Pt):bx []:=⟨207,[.lf (.fn yield),.lf (.ptr (some c0))]⟩
def L_(t:bO):bx [qi]:=⟨208,[vp t]⟩
def Ma(t:bO)(i:Int):bx [qs]:=⟨209,[vp t,vi i]⟩
def UI(t:bO)(g_:Sl)(was i:Int):bx []:=⟨210,[vp t,.lf (.sl g_),vi was,vi i]⟩
def UJ(a:bO)(i:Int):bx [qi]:=⟨211,[vp a,vi i]⟩
def Mb(l:bO)(sock:Int):bx [qi]:=⟨212,[vp l,vi sock]⟩
def XI(yield:Fv)(c0:Pt):bx []:=⟨213,[.lf (.fn yield),.lf (.ptr (some c0))]⟩
def UK(slices:Sl):bx [qs]:=⟨214,[.lf (.sl slices)]⟩
def XJ(s:Int)(c0:Pt):bx [qb]:=⟨215,[vi s,.lf (.ptr (some c0))]⟩
def Ql(s:Sl)(del:Fv):bx [qs]:=⟨216,[.lf (.sl s),.lf (.fn del)]⟩
def Qn(a b:Int×Int):bx [qi]:=⟨217,[.agg (Ks.mk cr a),.agg (Ks.mk cr b)]⟩
def JW(d:bO)(o:Int):bx [qi]:=⟨218,[vp d,vi o]⟩
def EC(a b c:Int):bx [qu]:=⟨220,[vu a,vu b,vu c]⟩
def Gr(m:bO):bx [qu]:=⟨221,[vp m]⟩
def Gs(p:bO):bx [qu]:=⟨222,[vp p]⟩
def Qo(m:bO):bx [qu]:=⟨223,[vp m]⟩
def Qp(r:bO):bx [qu]:=⟨224,[vp r]⟩
def UL(c:bO):bx [qi]:=⟨225,[vp c]⟩
def ED(p:bO):bx [qb]:=⟨226,[vp p]⟩
def Me(m:bO):bx [qb]:=⟨227,[vp m]⟩
def Qq(v:Int)(l:Sl):bx [qu]:=⟨228,[vu v,.lf (.sl l)]⟩
def UM(b:bO):bx [qu]:=⟨229,[vp b]⟩
def UN(b:bO)(upto:Int)(sacks:Sl):bx [qb]:=⟨230,[vp b,vu upto,.lf (.sl sacks)]⟩
def UO(sacks:Sl)(p:yQ):bx [qb]:=⟨231,[.lf (.sl sacks),.agg (Ks.mk aF p)]⟩
def UP(b:bO):bx [qu]:=⟨232,[vp b]⟩
def y_(a b:Int):bx [qu]:=⟨233,[vu a,vu b]⟩
def Qr(d:bO)(o:jT)(a:Int):bx [.agg eH]:=⟨234,[vp d,.agg (Ks.mk aW o),vu a]⟩
def UQ(s:bO)(aj bo flight:Int):bx [.agg aW]:=⟨235,[vp s,vu aj,vu bo,vu flight]⟩
def Mf(p:yQ):bx [qb]:=⟨236,[.agg (Ks.mk aF p)]⟩
def Qs(b:bO):bx [.agg [.int .u64,.int .u64],qb]:=⟨237,[vp b]⟩
def Qt(b:bO):bx [qu]:=⟨238,[vp b]⟩
def UR(s:bO)(flight:Int):bx []:=⟨239,[vp s,vu flight]⟩
def US(out limit:Int):bx [qb]:=⟨240,[vu out,vu limit]⟩
def UT(ba tso most:Int):bx [qu]:=⟨241,[vu ba,vi tso,vi most]⟩
def UU(b:bO):bx [qi]:=⟨242,[vp b]⟩
def UW(b:bO):bx [qu]:=⟨243,[vp b]⟩
def Mg(b:bO):bx [qi]:=⟨244,[vp b]⟩
def UX(ba bt:Int):bx [qi]:=⟨245,[vu ba,vi bt]⟩
def Qu(q:bO)(sock qM aj:Int):bx [qb]:=⟨246,[vp q,vi sock,vu qM,vu aj]⟩
def Qv(l:bO)(sock:Int):bx [qi]:=⟨247,[vp l,vi sock]⟩
def Qw(l:Sl)(x:Int):bx [qs]:=⟨248,[.lf (.sl l),vi x]⟩
def Mh(p:bO):bx []:=⟨249,[vp p]⟩
def Qx(p:bO)(s:jT):bx []:=⟨250,[vp p,.agg (Ks.mk aW s)]⟩
def UY(d:bO)(o:jT):bx []:=⟨251,[vp d,.agg (Ks.mk aW o)]⟩
def UZ(a b:Int):bx [qu,qu]:=⟨252,[vu a,vu b]⟩
def U0(hi lo c:Int):bx [qu,qi]:=⟨253,[vu hi,vu lo,vu c]⟩
def Mi(w':bO)(v i:Int):bx [qb]:=⟨254,[.lf (.ptr w'),vu v,vi i]⟩
def U1(w':bO)(t v:Int):bx []:=⟨255,[.lf (.ptr w'),vu t,vu v]⟩
def EE(w':bO)(i t v:Int):bx []:=⟨256,[.lf (.ptr w'),vi i,vu t,vu v]⟩
def Qy(w':bO)(t v:Int):bx []:=⟨257,[.lf (.ptr w'),vu t,vu v]⟩
def U3(c:bO)(aj bT bo flight up one:Int):bx [qb]:=⟨258,[vp c,vu aj,vu bT,vu bo,vu flight,vu up,vu one]⟩
def JX(bw bT gain:Int):bx [qu]:=⟨259,[vu bw,vu bT,vu gain]⟩
def U5(p:bO)(start limited:Bool)(bw:Int):bx [qb]:=⟨260,[vp p,.lf (.bool start),.lf (.bool limited),vu bw]⟩
def Mj(c:bO)(aj phase:Int):bx []:=⟨261,[vp c,vu aj,vi phase]⟩
def U6(d:bO)(o a:Int)(a':Bool)(a'' a''':Int):bx [qb,qb]:=⟨262,[vp d,vu o,vu a,.lf (.bool a'),.lf (.int .u64 a''),.lf (.int .u64 a''')]⟩
def U7(c:bO):bx [qu]:=⟨263,[vp c]⟩
def U9(bw bT gain tso bt:Int):bx [qu]:=⟨264,[vu bw,vu bT,vu gain,vu tso,vu bt]⟩
def Qz(b:bO):bx [qi]:=⟨265,[vp b]⟩
def JY(a b:Int):bx [qu]:=⟨266,[vu a,vu b]⟩
def U_(a:bO)(i:Int):bx [qb]:=⟨267,[vp a,vi i]⟩
def Va(s:Sl)(n:Int):bx [qs]:=⟨268,[.lf (.sl s),vi n]⟩
def Vb(s:Sl)(f:Fv):bx [qi]:=⟨269,[.lf (.sl s),.lf (.fn f)]⟩
def Vc(vals:Sl):bx [qi]:=⟨270,[.lf (.sl vals)]⟩
def QA(x y:Int):bx [qi]:=⟨271,[vu x,vu y]⟩
def Gt(t:bO)(i:Int):bx []:=⟨272,[vp t,vi i]⟩
def Mk(t:bO)(i:Int):bx [qi]:=⟨273,[vp t,vi i]⟩
def Ml(t:bO)(i:Int):bx [qi]:=⟨274,[vp t,vi i]⟩
def Mm(t:bO)(i:Int):bx [qi]:=⟨275,[vp t,vi i]⟩
def Vd(a b:Int):bx [qu,qu]:=⟨276,[vu a,vu b]⟩
def Ve(hi lo c:Int):bx [qu,qi]:=⟨277,[vu hi,vu lo,vu c]⟩
def QB(p:bO):bx [qu,qb]:=⟨278,[vp p]⟩
def Mn(m:bO):bx [qu]:=⟨279,[vp m]⟩
def Vf(c:bO):bx [qu]:=⟨280,[vp c]⟩
def QC(s:Sl)(f:Fv):bx [qb]:=⟨281,[.lf (.sl s),.lf (.fn f)]⟩
def XK(r:Int×Int)(c0:Pt):bx [qb]:=⟨282,[.agg (Ks.mk cr r),.lf (.ptr (some c0))]⟩
def XL(r:Int×Int)(c0:Pt):bx [qb]:=⟨283,[.agg (Ks.mk cr r),.lf (.ptr (some c0))]⟩
def Vg(r:bO)(s:jT):bx [qb]:=⟨284,[vp r,.agg (Ks.mk aW s)]⟩
def Vh(d:bO)(o:Bool)(a:jT):bx []:=⟨285,[vp d,.lf (.bool o),.agg (Ks.mk aW a)]⟩
def Vi(m:bO)(s:jT):bx []:=⟨286,[vp m,.agg (Ks.mk aW s)]⟩
def Vj(c:bO)(aj bT bo flight up one:Int):bx [qb]:=⟨287,[vp c,vu aj,vu bT,vu bo,vu flight,vu up,vu one]⟩
def Mo(m:bO)(gain:Int):bx [qu]:=⟨288,[vp m,vu gain]⟩
def Vk(p:bO)(start limited:Bool)(bw:Int):bx [qb]:=⟨289,[vp p,.lf (.bool start),.lf (.bool limited),vu bw]⟩
def Vl(m:bO)(s:jT):bx []:=⟨290,[vp m,.agg (Ks.mk aW s)]⟩
def Vm(m:bO)(s:jT)(start:Bool):bx []:=⟨291,[vp m,.agg (Ks.mk aW s),.lf (.bool start)]⟩
def Vn(m:bO):bx []:=⟨292,[vp m]⟩
def Vo(d:bO)(o:jT)(a:Bool):bx []:=⟨293,[vp d,.agg (Ks.mk aW o),.lf (.bool a)]⟩
def Vp(d:bO)(o:jT)(a:Int):bx []:=⟨294,[vp d,.agg (Ks.mk aW o),vu a]⟩
def Vq(l:Sl):bx [qu]:=⟨295,[.lf (.sl l)]⟩
def QD(b:bO):bx [.lf .fn]:=⟨296,[vp b]⟩
def QE(l:Sl)(x:Int):bx [qb]:=⟨297,[.lf (.sl l),vi x]⟩
def Vr(ND bw:Int):bx [qb]:=⟨298,[vu ND,vu bw]⟩
def QF(x:Int):bx [qb]:=⟨299,[vu x]⟩
def JZ(t:bO)(i:Int):bx [qi]:=⟨300,[vp t,vi i]⟩
def QG(x y:Int):bx [qu,qu]:=⟨301,[vu x,vu y]⟩
def Vs(s:Sl)(f:Fv):bx [qi]:=⟨302,[.lf (.sl s),.lf (.fn f)]⟩
def QH(p:bO)(s:jT):bx []:=⟨303,[vp p,.agg (Ks.mk aW s)]⟩
def Mp(p:bO):bx []:=⟨304,[vp p]⟩
def Vt(d:bO)(o:jT):bx []:=⟨305,[vp d,.agg (Ks.mk aW o)]⟩
def Vu(d:bO)(o a:Int):bx [qu]:=⟨306,[vp d,vu o,vu a]⟩
def Vv(c:bO)(over:Bool)(bo flight up one:Int):bx [qb]:=⟨307,[vp c,.lf (.bool over),vu bo,vu flight,vu up,vu one]⟩
def QI(c:bO)(aj phase:Int):bx []:=⟨308,[vp c,vu aj,vi phase]⟩
def QJ(bw bT gain:Int):bx [qu]:=⟨309,[vu bw,vu bT,vu gain]⟩
def QK(m:bO)(aj:Int):bx []:=⟨310,[vp m,vu aj]⟩
def Vw(d:bO)(o a:Int)(a':Bool)(a'' a''':Int):bx [qb,qb]:=⟨311,[vp d,vu o,vu a,.lf (.bool a'),.lf (.int .u64 a''),.lf (.int .u64 a''')]⟩
def Mq(m:bO):bx [qu]:=⟨312,[vp m]⟩
def QL(m:bO):bx []:=⟨313,[vp m]⟩
def Vx(bw bT gain tso bt:Int):bx [qu]:=⟨314,[vu bw,vu bT,vu gain,vu tso,vu bt]⟩
def Vy(m:bO):bx [qu]:=⟨315,[vp m]⟩
def Vz(yield:Fv)(c0:Pt):bx []:=⟨316,[.lf (.fn yield),.lf (.ptr (some c0))]⟩
def VA(p:bO)(s:jT):bx [qu,qb]:=⟨317,[vp p,.agg (Ks.mk aW s)]⟩
def VB(a b:Int):bx [qu]:=⟨318,[vu a,vu b]⟩
def Gu(t:Int)(s:Int×Int)(kP:Int):bx [qb]:=⟨319,[vu t,.agg (Ks.mk cr s),vu kP]⟩
def VC(m:bO)(t v:Int):bx []:=⟨320,[vp m,vu t,vu v]⟩
def Mr(m:bO)(from':Int)(s:Int×Int):bx []:=⟨321,[vp m,.lf (.int .i64 from'),.agg (Ks.mk cr s)]⟩
def QM(m:bO)(s:Int×Int):bx []:=⟨322,[vp m,.agg (Ks.mk cr s)]⟩
def VD(p:bO)(aj:Int)(start:Bool)(flight floor:Int):bx [qb]:=⟨323,[vp p,vu aj,.lf (.bool start),vu flight,vu floor]⟩
def Ms(a b:Int):bx [qu]:=⟨324,[vu a,vu b]⟩
end Go.X
