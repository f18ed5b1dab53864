/- Words. -/
import Derived.Test.YtniflenfpbbikaaGreatDoorK
import Derived.Test.YtniflenfpbbikaaGreatDoorProg
set_option linter.all false
namespace Go.X
open IntKind (u64 i64)
open Go.Proofs
noncomputable abbrev A4:Program:=Tryz.prog
structure bz(rs:List Sh) where
 f:FuncId
 a:List V1
abbrev vs(x:Sl):V1:=.lf (.sl x)
abbrev bC{rs:List Sh}(c:bz rs)(K:Rs.T rs→WP):WP:=call A4 c.f c.a rs K
abbrev aT(c:bz [qu])(K:Int→WP):WP:=bC c K
abbrev bo(c:bz [qi])(K:Int→WP):WP:=bC c K
abbrev cM(c:bz [qb])(K:Bool→WP):WP:=bC c K
abbrev lU(c:bz [qp])(K:bO→WP):WP:=bC c K
abbrev cg(c:bz [])(K:Unit→WP):WP:=bC c K
abbrev dN(p:Pt)(A:Int→WP):WP:=ld ci p A
abbrev bJ(p:Pt)(A:Int→WP):WP:=ld cu p A
abbrev s_(p:Pt)(A:bO→WP):WP:=ld cp p A
abbrev rE(p:Pt)(A:Bool→WP):WP:=ld cb p A
abbrev fb(p:Pt)(A:Sl→WP):WP:=ld cl p A
abbrev gV(q:Pt)(o:Nat)(A:Int→WP):WP:=ld ci ⟨q.b,q.o+o⟩ A
abbrev dx(q:Pt)(o:Nat)(A:Int→WP):WP:=ld cu ⟨q.b,q.o+o⟩ A
abbrev fZ(q:Pt)(o:Nat)(A:bO→WP):WP:=ld cp ⟨q.b,q.o+o⟩ A
abbrev oM(q:Pt)(o:Nat)(A:Bool→WP):WP:=ld cb ⟨q.b,q.o+o⟩ A
abbrev jn(q:Pt)(o:Nat)(A:Sl→WP):WP:=ld cl ⟨q.b,q.o+o⟩ A
abbrev EW(q:Pt)(o:Nat)(x:Int)(A:WP):WP:=cw ⟨q.b,q.o+o⟩ (Ks.mk ci x) A
abbrev lA(q:Pt)(o:Nat)(x:Int)(A:WP):WP:=cw ⟨q.b,q.o+o⟩ (Ks.mk cu x) A
abbrev lG(q:Pt)(o:Nat)(x:bO)(A:WP):WP:=cw ⟨q.b,q.o+o⟩ (Ks.mk cp x) A
abbrev Zd(q:Pt)(o:Nat)(x:Bool)(A:WP):WP:=cw ⟨q.b,q.o+o⟩ (Ks.mk cb x) A
abbrev sc(q:Pt)(o:Nat)(x:Sl)(A:WP):WP:=cw ⟨q.b,q.o+o⟩ (Ks.mk cl x) A
class bG{rs:List Sh}(c:bz rs)(W:outParam ((Rs.T rs→WP)→WP)):Prop where
 cx:∀R w,W R w→CW A4 c.f c.a rs R w
class PA{rs:List Sh}(c:bz rs)(W:outParam (Nat→(Rs.T rs→WP)→WP)):Prop where
 cx:∀R w,W w.heap.size R w→CW A4 c.f c.a rs R w
abbrev bx{rs:List Sh}(c:bz rs)(A:SP)(B:Rs.T rs→SP):Prop:=wF A4 c.f c.a rs A B
theorem bF{rs:List Sh}{c:bz rs}{A:SP}{B:Rs.T rs→SP}{W:(Rs.T rs→WP)→WP}[i:bG c W](h:∀w S R,au w S R w A→W (λx w'=>au w S R w' (B x)) w):bx c A B:=Th (λR w=>i.cx R w) h
theorem Tg{rs:List Sh}{c:bz rs}{A:SP}{B:Rs.T rs→SP}{W:Nat→(Rs.T rs→WP)→WP}[i:PA c W](h:∀w S R,au w S R w A→W w.heap.size (λx w'=>au w S R w' (B x)) w):bx c A B:=YH (λR w=>i.cx R w) h
theorem bI{rs:List Sh}{c:bz rs}{W:(Rs.T rs→WP)→WP}{fn:Func}(hf:A4.funcs[c.f]?=some fn)(an:F4)(hs:RS A4 fn an c.a rs=W:=by kernel_rfl)(he:JW A4 c.f=true:=by kernel_rfl)(hn:Nat.ble c.a.length fn.ntmps=true:=by kernel_rfl):bG c W:=⟨λR _ h=>tJ (an:=an) hf he hn ⟨congrFun hs R⟩ h⟩
theorem VH{rs:List Sh}{c:bz rs}{W:Nat→(Rs.T rs→WP)→WP}{fn:Func}(hf:A4.funcs[c.f]?=some fn)(an:F4)(hs:RS A4 fn an c.a rs=λR w=>W w.heap.size R w:=by kernel_rfl)(he:JW A4 c.f=true:=by kernel_rfl)(hn:Nat.ble c.a.length fn.ntmps=true:=by kernel_rfl):PA c W:=⟨λR w h=>tJ (A:=λw=>W w.heap.size R w) (an:=an) hf he hn ⟨congrFun hs R⟩ h⟩
def Bs:Nat→Nat→Nat×Nat
|0,n=>(0,n)
|k+1,n=>match n%64 with
 |63=>match Bs k (n/64)with|(v,m)=>(v+63,m)
 |v=>(v,n/64)
def YR:Nat→Nat→Nat→List Nat×Nat
|_,0,n=>([],n)
|o,c+1,n=>match Bs 9 n with|(v,m)=>match YR o c m with|(l,r)=>(cond (Nat.blt v 16) v (v-16+o)::l,r)
def Se(o:Nat):Nat→Nat→DT×Nat
|0,n=>(.aK,n)
|k+1,n=>match Bs 9 n with
 |(32,m)=>(.aK,m)
 |(c,m)=>match Nat.blt c 32 with
  |true=>match Se o k m with|(r,m)=>(.f c [o+c] r,m)
  |false=>match Bs 9 m with|(i,m)=>match YR o ((c-32)/4) m with|(l,m)=>match Se o k m with
   |(r,m)=>match c%4 with
    |1=>(.f i l r,m)
    |2=>(.w i l r,m)
    |_=>match Se o k m with|(a,m)=>(.wa i l r a,m)
def Sf:Nat→Nat→List yf×Nat
|0,n=>([],n)
|c+1,n=>match Bs 9 n with|(i,m)=>match Sf c (m/64)with|(l,r)=>((i,match m%64 with|0=>.lf (.int .u64)|1=>.lf (.int .i64)|2=>.lf .bool|3=>.lf .ptr|_=>.lf .sl)::l,r)
def WT:Nat→Nat→F4×Nat
|0,n=>(.o,n)
|k+1,n=>match n%2 with
 |0=>(.o,n/2)
 |_=>match WT k (n/2)with
  |(a,m)=>match WT k m with
   |(b,l)=>(.s a b,l)
def F2:Nat→Nat→F4×Nat
|0,n=>(.o,n)
|k+1,n=>match Bs 9 n with
 |(0,m)=>(.o,m)
 |(1,m)=>match F2 k m with|(a,m)=>match F2 k m with|(b,m)=>(.s a b,m)
 |(2,m)=>match F2 k m with|(a,m)=>(.b a,m)
 |(3,m)=>match Bs 9 m with|(o,m)=>match Se o 400 m with|(d,m)=>(.d d,m)
 |(4,m)=>match Bs 9 m with|(c,m)=>match Sf c m with|(l,m)=>match F2 k m with|(a,m)=>match F2 k m with|(b,m)=>(.j l a b,m)
 |(5,m)=>match Bs 9 m with|(c,m)=>match Sf c m with|(l,m)=>match F2 k m with|(a,m)=>(.bj l a,m)
 |(6,m)=>match Bs 9 m with|(c,m)=>match Sf c m with|(l,m)=>match F2 k m with|(a,m)=>(.l l a,m)
 |(c,m)=>((WT 99 ([1,5,13,1133,21,3,845,11,53,85,45,75,211,1365,54093,5229,4533,27,4641205,1307,605,349525,283,2741,4525,685,3413,19245,289901,19688557,9294669,1205,22113389,93,333,276301,151,77819552231125,2893,331,4633005,13645,18123,1364813,5592405,23,299,46411].getD (c-7) 0)).1,m)
abbrev uz(n:Nat):F4:=(F2 500 n).1
def c4(b:Sl):bz [qb]:=⟨4,[.lf (.sl b)]⟩
def c9(c:eN)(l:Sl):bz [qs,qs]:=⟨9,[.agg (Ks.mk bk c),.lf (.sl l)]⟩
def PT(c:eN)(l:Sl):bz [qs,qs]:=⟨10,[.agg (Ks.mk bk c),.lf (.sl l)]⟩
def Px:bz [qb]:=⟨11,[]⟩
def YX(b:Sl):bz [qs]:=⟨15,[.lf (.sl b)]⟩
def XI:bz [.agg bk]:=⟨16,[]⟩
def YY(outs errs:Sl):bz [.lf .str]:=⟨17,[.lf (.sl outs),.lf (.sl errs)]⟩
def XJ:bz [.agg bk]:=⟨18,[]⟩
def ZD(d:Sl):bz [qs]:=⟨19,[.lf (.sl d)]⟩
def ZE(outs errs:Sl):bz [.lf .str]:=⟨20,[.lf (.sl outs),.lf (.sl errs)]⟩
def ZF(c:eN):bz [qp,qi]:=⟨22,[.agg (Ks.mk bk c)]⟩
def ZG(m:bO)(d:iO):bz [.agg eI,qi]:=⟨23,[vp m,.agg (Ks.mk bE d)]⟩
def ZH(c:eN):bz [qp,qi]:=⟨24,[.agg (Ks.mk bk c)]⟩
def ZI(m:bO)(d:iO):bz [.agg eI,qi]:=⟨25,[vp m,.agg (Ks.mk bE d)]⟩
def ZJ(d:Zv):bz [.agg bE]:=⟨30,[.agg (Ks.mk Tt d)]⟩
def XP(v:Int):bz [.lf .str]:=⟨32,[vi v]⟩
def YZ(sign:ByteArray)(l:Sl):bz [.lf .str]:=⟨33,[.lf (.str sign),.lf (.sl l)]⟩
def SF(b:Sl)(i:Int):bz [qi]:=⟨36,[.lf (.sl b),vi i]⟩
def Mj(v:Int):bz [.lf .str]:=⟨37,[vu v]⟩
def Y0(sign:ByteArray)(l:Sl):bz [.lf .str]:=⟨38,[.lf (.str sign),.lf (.sl l)]⟩
def ZK(c:eN):bz [qp,qi]:=⟨39,[.agg (Ks.mk bk c)]⟩
def ZL(lh:Int):bz [qp]:=⟨40,[.lf (.int .u64 lh)]⟩
def ZM:bz [qp]:=⟨41,[]⟩
def ZN(c:bO)(to':Int):bz [qi]:=⟨42,[vp c,.lf (.int .u64 to')]⟩
def ZO(m o:bO):bz []:=⟨43,[vp m,vp o]⟩
def ZP(m:bO)(c:eN):bz [qi]:=⟨44,[vp m,.agg (Ks.mk bk c)]⟩
def ZQ(d:bO)(o:iO)(a:bO):bz [qi]:=⟨45,[vp d,.agg (Ks.mk bE o),vp a]⟩
def Y1(d:eN):bz [qb]:=⟨46,[.agg (Ks.mk bk d)]⟩
def ZR(d:bO)(o:iO):bz [.agg eI,qi]:=⟨47,[vp d,.agg (Ks.mk bE o)]⟩
def ZS(d:bO):bz [.agg eI]:=⟨48,[vp d]⟩
def Y2(c:eN):bz [qb]:=⟨56,[.agg (Ks.mk bk c)]⟩
def ZT:bz [qp]:=⟨57,[]⟩
def ZU(n:Int):bz [qp]:=⟨58,[vi n]⟩
def ZV(l:Sl):bz [qu]:=⟨59,[.lf (.sl l)]⟩
def W5(d:bO)(o:Int)(a:Sl):bz [.agg bc,qb]:=⟨60,[vp d,vu o,.lf (.sl a)]⟩
def VB(m:bO):bz [qu]:=⟨61,[vp m]⟩
def XQ(m:bO):bz [qs]:=⟨62,[vp m]⟩
def SG(l:bO)(sock fate:Int):bz [qi]:=⟨63,[vp l,vi sock,vi fate]⟩
def W6(q:bO):bz [qu,qb]:=⟨64,[vp q]⟩
def ZW(q:bO)(c:eN):bz [qi]:=⟨65,[vp q,.agg (Ks.mk bk c)]⟩
def ZX(i:Int):bz [qb]:=⟨66,[vi i]⟩
def ZY(id:Int)(c:eN):bz [qp]:=⟨67,[vi id,.agg (Ks.mk bk c)]⟩
def ZZ(m:bO)(i:Int)(o:bO):bz []:=⟨68,[vp m,vi i,vp o]⟩
def Z0(s:bO)(d:iO)(af:Int):bz [qi]:=⟨69,[vp s,.agg (Ks.mk bE d),vu af]⟩
def Z1(m:bO)(i:Int)(o:bO):bz []:=⟨70,[vp m,vi i,vp o]⟩
def Z2(id:Int)(c:eN):bz [qp]:=⟨71,[vi id,.agg (Ks.mk bk c)]⟩
def Z3(m:bO)(i:Int):bz [.agg eI]:=⟨72,[vp m,vi i]⟩
def Y3(b:bO)(n:Int):bz [qi]:=⟨73,[vp b,vi n]⟩
def Z4(d:bO)(o a:Int)(a':Sl):bz [qi]:=⟨74,[vp d,vu o,vu a,.lf (.sl a')]⟩
def Z5(s:bO)(af:Int):bz []:=⟨75,[vp s,vu af]⟩
def VC(s:bO)(n:Int):bz [qi]:=⟨76,[vp s,vi n]⟩
def Z6(d o a:bO):bz []:=⟨77,[vp d,vp o,vp a]⟩
def Y4(d:bO)(o:Int)(a:Sl):bz [.agg bc,qb]:=⟨78,[vp d,vu o,.lf (.sl a)]⟩
def VD(b:bO)(sock fate:Int):bz [qi]:=⟨79,[vp b,vi sock,vi fate]⟩
def Y5(q:bO):bz [qu,qb]:=⟨80,[vp q]⟩
def Mk(v lo hi:Int):bz [qb]:=⟨87,[vi v,vi lo,vi hi]⟩
def Z7(n:Int):bz [qp]:=⟨88,[vi n]⟩
def Z8(q:bO)(af:Int):bz []:=⟨89,[vp q,vu af]⟩
def XR(l:bO):bz [qi,qb,qb]:=⟨90,[vp l]⟩
def Y6(l:bO):bz [qb]:=⟨91,[vp l]⟩
def Z9(q:bO):bz [qb]:=⟨92,[vp q]⟩
def Y7(l:bO):bz [qb]:=⟨93,[vp l]⟩
def Y8(f:bO):bz [qu]:=⟨94,[vp f]⟩
def Z_(d:bO)(o:Int×Int):bz [qi]:=⟨95,[vp d,.agg (Ks.mk cr o)]⟩
def Y9(f:bO)(sock:Int):bz [.agg [.int .u64,.int .u64]]:=⟨96,[vp f,vi sock]⟩
def c97(q f:bO)(af aY:Int):bz [.agg bc]:=⟨97,[vp q,vp f,vu af,vu aY]⟩
def c98(c:bO):bz [qu]:=⟨98,[vp c]⟩
def c99(s:bO):bz [.agg eH]:=⟨99,[vp s]⟩
def TJ(l:bO)(sock:Int):bz [qi]:=⟨100,[vp l,vi sock]⟩
def TK(t:bO):bz [.agg [.int .u64,.int .u64],qb]:=⟨101,[vp t]⟩
def TL(n:Int):bz [qp]:=⟨102,[vi n]⟩
def TM:bz [qp]:=⟨103,[]⟩
def TN:bz [qp]:=⟨104,[]⟩
def PU(bs:Int):bz [qp]:=⟨105,[vu bs]⟩
def TO(q:bO)(sock:Int):bz [qs]:=⟨106,[vp q,vi sock]⟩
def PV(m o:bO)(s:k_)(fate:Int):bz []:=⟨107,[vp m,vp o,.agg (Ks.mk bc s),vi fate]⟩
def TP(s:bO)(n:Int):bz [qi]:=⟨108,[vp s,vi n]⟩
def TQ(s:bO)(af upto:Int)(sacks:Sl):bz [qi]:=⟨109,[vp s,vu af,vu upto,.lf (.sl sacks)]⟩
def TR(s:bO)(af:Int):bz [qi]:=⟨110,[vp s,vu af]⟩
def PW(s:bO)(n:Int):bz [qi]:=⟨111,[vp s,vi n]⟩
def TS(d:bO)(o:Int):bz [.agg bc,qi]:=⟨112,[vp d,vu o]⟩
def TT(q:bO)(s:k_)(af:Int):bz [qi,qi]:=⟨113,[vp q,.agg (Ks.mk bc s),vu af]⟩
def TU(bs:Int):bz [qp]:=⟨114,[vu bs]⟩
def TW(q:bO)(i:Int):bz [qs]:=⟨115,[vp q,vi i]⟩
def LQ(d:bO)(o:Int)(a:Sl):bz [qs,qu,qi]:=⟨116,[vp d,vu o,.lf (.sl a)]⟩
def TX(b:bO)(upto:Int):bz [qi]:=⟨117,[vp b,vu upto]⟩
def TY(d:bO)(o a:Int)(a':pZ):bz []:=⟨118,[vp d,vu o,vu a,.agg (Ks.mk cy a')]⟩
def PX(d:bO)(o:jT)(a:Int):bz [.agg eH]:=⟨119,[vp d,.agg (Ks.mk aW o),vu a]⟩
def PY(d:bO)(o a a':Int):bz [.agg aW]:=⟨120,[vp d,vu o,vu a,.lf (.int .u64 a')]⟩
def JF(b:bO):bz [qu]:=⟨121,[vp b]⟩
def JG(s:bO):bz [qi]:=⟨122,[vp s]⟩
def TZ(b:bO):bz [qu]:=⟨123,[vp b]⟩
def PZ(d:bO)(o:Int):bz [.agg bc,qi]:=⟨124,[vp d,vu o]⟩
def T0(d:bO)(o:k_)(a:Int):bz [qi,qi]:=⟨125,[vp d,.agg (Ks.mk bc o),vu a]⟩
def LR(q:bO):bz [qi]:=⟨126,[vp q]⟩
def Gl(f:PD):bz [qu]:=⟨127,[.agg (Ks.mk oO f)]⟩
def Gm(q:bO)(i place:Int):bz []:=⟨128,[vp q,vi i,vi place]⟩
def T1(l:bO):bz [qi,qb,qb]:=⟨129,[vp l]⟩
def qF(a b:Int):bz [qu]:=⟨130,[vu a,vu b]⟩
def LS(size aY:Int):bz [qu]:=⟨131,[vi size,vu aY]⟩
def T2(a b:Int):bz [qu]:=⟨132,[vu a,vu b]⟩
def T3(rates:Sl)(i:Int):bz [qu]:=⟨133,[.lf (.sl rates),vi i]⟩
def P0(t:bO):bz [.lf .fn]:=⟨140,[vp t]⟩
def P1(d:bO)(o:Int×Int):bz [qi]:=⟨141,[vp d,.agg (Ks.mk cr o)]⟩
def LU(l:bO)(sock:Int)(fresh:Bool):bz [qi]:=⟨142,[vp l,vi sock,.lf (.bool fresh)]⟩
def LW(l:bO):bz [.lf .fn]:=⟨143,[vp l]⟩
def LX(l:bO)(sock:Int):bz [qb]:=⟨144,[vp l,vi sock]⟩
def P2(t:bO)(k:Int×Int):bz [qs]:=⟨145,[vp t,.agg (Ks.mk cr k)]⟩
def P3(t:bO)(gZ:Sl)(k:Int×Int):bz [qi]:=⟨146,[vp t,.lf (.sl gZ),.agg (Ks.mk cr k)]⟩
def P4(d:bO):bz [qi,qi]:=⟨147,[vp d]⟩
def T4(d:bO)(o:Sl)(a a':Int):bz []:=⟨148,[vp d,.lf (.sl o),vi a,.lf (.int .i64 a')]⟩
def oL(a b:Int):bz [qu]:=⟨149,[vu a,vu b]⟩
def Be(size aY:Int):bz [qu]:=⟨150,[vi size,vu aY]⟩
def T5(a b:Int):bz [qu]:=⟨151,[vu a,vu b]⟩
def wX(m:bO):bz [.agg eH]:=⟨152,[vp m]⟩
def T6(kQ:Int):bz [qp]:=⟨153,[vu kQ]⟩
def T7:bz [qp]:=⟨154,[]⟩
def T8:bz [qp]:=⟨155,[]⟩
def T9:bz [qp]:=⟨156,[]⟩
def T_:bz [qp]:=⟨157,[]⟩
def Ua:bz [qp]:=⟨158,[]⟩
def P5(bw gain:Int):bz [qu]:=⟨159,[vu bw,vu gain]⟩
def Ub(q:bO)(sock:Int):bz [qb]:=⟨160,[vp q,vi sock]⟩
def JH(q:bO)(sock:Int):bz [qi]:=⟨161,[vp q,vi sock]⟩
def Uc(s:Sl):bz [qs]:=⟨162,[.lf (.sl s)]⟩
def Ud(b:bO)(n:Int):bz [qi]:=⟨163,[vp b,vi n]⟩
def P6(d:bO)(o:Int)(a:Sl):bz [qs,qu,qi]:=⟨164,[vp d,vu o,.lf (.sl a)]⟩
def Ue(b:bO)(upto:Int):bz [qi]:=⟨165,[vp b,vu upto]⟩
def Uf(d:bO)(o a:Int)(a':pZ):bz []:=⟨166,[vp d,vu o,vu a,.agg (Ks.mk cy a')]⟩
def P7(s:bO)(af bn:Int):bz []:=⟨167,[vp s,vu af,vu bn]⟩
def Ug(b:bO):bz [qu]:=⟨168,[vp b]⟩
def Uh(d:bO):bz [qi]:=⟨169,[vp d]⟩
def LY(s:bO)(af flight:Int):bz [.agg cy]:=⟨170,[vp s,vu af,vu flight]⟩
def Gn(s:bO):bz [qu]:=⟨171,[vp s]⟩
def Eu(b:bO)(s:pZ):bz [.agg [.int .u64,.int .u64],qb]:=⟨172,[vp b,.agg (Ks.mk cy s)]⟩
def Ev(b:bO)(most:Int):bz [.agg [.int .u64,.int .u64],qb]:=⟨173,[vp b,vi most]⟩
def Bg(s:bO):bz [qi]:=⟨174,[vp s]⟩
def Ew(b:bO)(from' to':Int)(s:pZ):bz [qi]:=⟨175,[vp b,.lf (.int .u64 from'),.lf (.int .u64 to'),.agg (Ks.mk cy s)]⟩
def Ui(q:bO)(af:Int):bz []:=⟨176,[vp q,vu af]⟩
def Uj(d o:bO)(a:Int):bz [qi]:=⟨177,[vp d,vp o,vu a]⟩
def Uk(d:bO)(o a:Int):bz []:=⟨178,[vp d,vi o,vu a]⟩
def Ul(kQ:Int)(least:Bool):bz [qp]:=⟨179,[vu kQ,.lf (.bool least)]⟩
def P8(bw gain:Int):bz [qu]:=⟨180,[vu bw,vu gain]⟩
def P9(l:bO)(sock:Int):bz [qb]:=⟨181,[vp l,vi sock]⟩
def Um(p:yQ)(l:Sl):bz [qb]:=⟨182,[.agg (Ks.mk aE p),.lf (.sl l)]⟩
def wY(a b:Int):bz [qu]:=⟨183,[vu a,vu b]⟩
def Un(r:bO)(s:jT):bz [qb]:=⟨184,[vp r,.agg (Ks.mk aW s)]⟩
def Uo(d:bO)(o:Bool)(a:jT):bz []:=⟨185,[vp d,.lf (.bool o),.agg (Ks.mk aW a)]⟩
def Bh(a b c:Int):bz [qu]:=⟨186,[vu a,vu b,vu c]⟩
def Up(d:bO)(o a:Int):bz [qu]:=⟨187,[vp d,vu o,vu a]⟩
def Uq(d:bO)(o:jT)(a:Bool):bz []:=⟨188,[vp d,.agg (Ks.mk aW o),.lf (.bool a)]⟩
def Ur(m:bO):bz [qu,qu]:=⟨189,[vp m]⟩
def CA(m:bO):bz [qu]:=⟨190,[vp m]⟩
def Us(d:bO)(o:jT)(a:Bool):bz []:=⟨191,[vp d,.agg (Ks.mk aW o),.lf (.bool a)]⟩
def Ut(d:bO)(o:jT)(a a':Int):bz []:=⟨192,[vp d,.agg (Ks.mk aW o),vu a,.lf (.int .u64 a')]⟩
def Uu(m:bO):bz [.agg eH]:=⟨193,[vp m]⟩
def Uv(aY bs:Int):bz [qi]:=⟨194,[vu aY,vi bs]⟩
def Uw(b:bO):bz [.agg [.int .u64,.int .u64],qb]:=⟨195,[vp b]⟩
def Ux(s:bO)(flight:Int):bz []:=⟨196,[vp s,vu flight]⟩
def Uy(aY tso most:Int):bz [qu]:=⟨197,[vu aY,vi tso,vi most]⟩
def Uz(s:bO)(af flight:Int):bz [.agg cy]:=⟨198,[vp s,vu af,vu flight]⟩
def UA(b:bO)(s:pZ):bz [.agg [.int .u64,.int .u64],qb]:=⟨199,[vp b,.agg (Ks.mk cy s)]⟩
def UB(b:bO)(most:Int):bz [.agg [.int .u64,.int .u64],qb]:=⟨200,[vp b,vi most]⟩
def UC(b:bO)(from' to':Int)(s:pZ):bz [qi]:=⟨201,[vp b,.lf (.int .u64 from'),.lf (.int .u64 to'),.agg (Ks.mk cy s)]⟩
def UD(q:bO)(af:Int):bz []:=⟨202,[vp q,vu af]⟩
def UE(q:bO):bz [qi]:=⟨203,[vp q]⟩
def LZ(l:bO)(sock:Int)(fresh:Bool):bz [qi]:=⟨204,[vp l,vi sock,.lf (.bool fresh)]⟩
def XK(yield:Fv)(c0:Pt):bz []:=⟨207,[.lf (.fn yield),.lf (.ptr (some c0))]⟩
def L0(t:bO):bz [qi]:=⟨208,[vp t]⟩
def L1(t:bO)(i:Int):bz [qs]:=⟨209,[vp t,vi i]⟩
def UF(t:bO)(gZ:Sl)(was i:Int):bz []:=⟨210,[vp t,.lf (.sl gZ),vi was,vi i]⟩
def UG(a:bO)(i:Int):bz [qi]:=⟨211,[vp a,vi i]⟩
def L2(l:bO)(sock:Int):bz [qi]:=⟨212,[vp l,vi sock]⟩
def XL(yield:Fv)(c0:Pt):bz []:=⟨213,[.lf (.fn yield),.lf (.ptr (some c0))]⟩
def UH(slices:Sl):bz [qs]:=⟨214,[.lf (.sl slices)]⟩
def XM(s:Int)(c0:Pt):bz [qb]:=⟨215,[vi s,.lf (.ptr (some c0))]⟩
def P_(s:Sl)(del:Fv):bz [qs]:=⟨216,[.lf (.sl s),.lf (.fn del)]⟩
def Qa(a b:Int×Int):bz [qi]:=⟨217,[.agg (Ks.mk cr a),.agg (Ks.mk cr b)]⟩
def JI(d:bO)(o:Int):bz [qi]:=⟨218,[vp d,vi o]⟩
def Ex(a b c:Int):bz [qu]:=⟨220,[vu a,vu b,vu c]⟩
def Gp(m:bO):bz [qu]:=⟨221,[vp m]⟩
def Gq(p:bO):bz [qu]:=⟨222,[vp p]⟩
def Qb(m:bO):bz [qu]:=⟨223,[vp m]⟩
def Qc(r:bO):bz [qu]:=⟨224,[vp r]⟩
def UI(c:bO):bz [qi]:=⟨225,[vp c]⟩
def Ey(p:bO):bz [qb]:=⟨226,[vp p]⟩
def L3(m:bO):bz [qb]:=⟨227,[vp m]⟩
def Qd(v:Int)(l:Sl):bz [qu]:=⟨228,[vu v,.lf (.sl l)]⟩
def UJ(b:bO):bz [qu]:=⟨229,[vp b]⟩
def UK(b:bO)(upto:Int)(sacks:Sl):bz [qb]:=⟨230,[vp b,vu upto,.lf (.sl sacks)]⟩
def UL(sacks:Sl)(p:yQ):bz [qb]:=⟨231,[.lf (.sl sacks),.agg (Ks.mk aE p)]⟩
def UM(b:bO):bz [qu]:=⟨232,[vp b]⟩
def y8(a b:Int):bz [qu]:=⟨233,[vu a,vu b]⟩
def Qe(d:bO)(o:jT)(a:Int):bz [.agg eH]:=⟨234,[vp d,.agg (Ks.mk aW o),vu a]⟩
def UN(s:bO)(af bn flight:Int):bz [.agg aW]:=⟨235,[vp s,vu af,vu bn,vu flight]⟩
def L4(p:yQ):bz [qb]:=⟨236,[.agg (Ks.mk aE p)]⟩
def Qf(b:bO):bz [.agg [.int .u64,.int .u64],qb]:=⟨237,[vp b]⟩
def Qg(b:bO):bz [qu]:=⟨238,[vp b]⟩
def UO(s:bO)(flight:Int):bz []:=⟨239,[vp s,vu flight]⟩
def UP(out limit:Int):bz [qb]:=⟨240,[vu out,vu limit]⟩
def UQ(aY tso most:Int):bz [qu]:=⟨241,[vu aY,vi tso,vi most]⟩
def UR(b:bO):bz [qi]:=⟨242,[vp b]⟩
def US(b:bO):bz [qu]:=⟨243,[vp b]⟩
def L5(b:bO):bz [qi]:=⟨244,[vp b]⟩
def UT(aY bs:Int):bz [qi]:=⟨245,[vu aY,vi bs]⟩
def Qh(q:bO)(sock rq af:Int):bz [qb]:=⟨246,[vp q,vi sock,vu rq,vu af]⟩
def Qi(l:bO)(sock:Int):bz [qi]:=⟨247,[vp l,vi sock]⟩
def Qj(l:Sl)(x:Int):bz [qs]:=⟨248,[.lf (.sl l),vi x]⟩
def L6(p:bO):bz []:=⟨249,[vp p]⟩
def Qk(p:bO)(s:jT):bz []:=⟨250,[vp p,.agg (Ks.mk aW s)]⟩
def UU(d:bO)(o:jT):bz []:=⟨251,[vp d,.agg (Ks.mk aW o)]⟩
def UW(a b:Int):bz [qu,qu]:=⟨252,[vu a,vu b]⟩
def UX(hi lo c:Int):bz [qu,qi]:=⟨253,[vu hi,vu lo,vu c]⟩
def L7(w':bO)(v i:Int):bz [qb]:=⟨254,[.lf (.ptr w'),vu v,vi i]⟩
def UY(w':bO)(t v:Int):bz []:=⟨255,[.lf (.ptr w'),vu t,vu v]⟩
def Ez(w':bO)(i t v:Int):bz []:=⟨256,[.lf (.ptr w'),vi i,vu t,vu v]⟩
def Ql(w':bO)(t v:Int):bz []:=⟨257,[.lf (.ptr w'),vu t,vu v]⟩
def UZ(c:bO)(af bX bn flight up one:Int):bz [qb]:=⟨258,[vp c,vu af,vu bX,vu bn,vu flight,vu up,vu one]⟩
def JJ(bw bX gain:Int):bz [qu]:=⟨259,[vu bw,vu bX,vu gain]⟩
def U0(p:bO)(start limited:Bool)(bw:Int):bz [qb]:=⟨260,[vp p,.lf (.bool start),.lf (.bool limited),vu bw]⟩
def L8(c:bO)(af phase:Int):bz []:=⟨261,[vp c,vu af,vi phase]⟩
def U1(d:bO)(o a:Int)(a':Bool)(a'' a''':Int):bz [qb,qb]:=⟨262,[vp d,vu o,vu a,.lf (.bool a'),.lf (.int .u64 a''),.lf (.int .u64 a''')]⟩
def U3(c:bO):bz [qu]:=⟨263,[vp c]⟩
def U5(bw bX gain tso bs:Int):bz [qu]:=⟨264,[vu bw,vu bX,vu gain,vu tso,vu bs]⟩
def Qn(b:bO):bz [qi]:=⟨265,[vp b]⟩
def JK(a b:Int):bz [qu]:=⟨266,[vu a,vu b]⟩
def U6(a:bO)(i:Int):bz [qb]:=⟨267,[vp a,vi i]⟩
def U7(s:Sl)(n:Int):bz [qs]:=⟨268,[.lf (.sl s),vi n]⟩
def U9(s:Sl)(f:Fv):bz [qi]:=⟨269,[.lf (.sl s),.lf (.fn f)]⟩
def U_(vals:Sl):bz [qi]:=⟨270,[.lf (.sl vals)]⟩
def Qo(x y:Int):bz [qi]:=⟨271,[vu x,vu y]⟩
def Gr(t:bO)(i:Int):bz []:=⟨272,[vp t,vi i]⟩
def L9(t:bO)(i:Int):bz [qi]:=⟨273,[vp t,vi i]⟩
def L_(t:bO)(i:Int):bz [qi]:=⟨274,[vp t,vi i]⟩
def Ma(t:bO)(i:Int):bz [qi]:=⟨275,[vp t,vi i]⟩
def Va(a b:Int):bz [qu,qu]:=⟨276,[vu a,vu b]⟩
def Vb(hi lo c:Int):bz [qu,qi]:=⟨277,[vu hi,vu lo,vu c]⟩
def Qp(p:bO):bz [qu,qb]:=⟨278,[vp p]⟩
def Mb(m:bO):bz [qu]:=⟨279,[vp m]⟩
def Vc(c:bO):bz [qu]:=⟨280,[vp c]⟩
def Qq(s:Sl)(f:Fv):bz [qb]:=⟨281,[.lf (.sl s),.lf (.fn f)]⟩
def XN(r:Int×Int)(c0:Pt):bz [qb]:=⟨282,[.agg (Ks.mk cr r),.lf (.ptr (some c0))]⟩
def XO(r:Int×Int)(c0:Pt):bz [qb]:=⟨283,[.agg (Ks.mk cr r),.lf (.ptr (some c0))]⟩
def Vd(r:bO)(s:jT):bz [qb]:=⟨284,[vp r,.agg (Ks.mk aW s)]⟩
def Ve(d:bO)(o:Bool)(a:jT):bz []:=⟨285,[vp d,.lf (.bool o),.agg (Ks.mk aW a)]⟩
def Vf(m:bO)(s:jT):bz []:=⟨286,[vp m,.agg (Ks.mk aW s)]⟩
def Vg(c:bO)(af bX bn flight up one:Int):bz [qb]:=⟨287,[vp c,vu af,vu bX,vu bn,vu flight,vu up,vu one]⟩
def Me(m:bO)(gain:Int):bz [qu]:=⟨288,[vp m,vu gain]⟩
def Vh(p:bO)(start limited:Bool)(bw:Int):bz [qb]:=⟨289,[vp p,.lf (.bool start),.lf (.bool limited),vu bw]⟩
def Vi(m:bO)(s:jT):bz []:=⟨290,[vp m,.agg (Ks.mk aW s)]⟩
def Vj(m:bO)(s:jT)(start:Bool):bz []:=⟨291,[vp m,.agg (Ks.mk aW s),.lf (.bool start)]⟩
def Vk(m:bO):bz []:=⟨292,[vp m]⟩
def Vl(d:bO)(o:jT)(a:Bool):bz []:=⟨293,[vp d,.agg (Ks.mk aW o),.lf (.bool a)]⟩
def Vm(d:bO)(o:jT)(a:Int):bz []:=⟨294,[vp d,.agg (Ks.mk aW o),vu a]⟩
def Vn(l:Sl):bz [qu]:=⟨295,[.lf (.sl l)]⟩
def Qr(b:bO):bz [.lf .fn]:=⟨296,[vp b]⟩
def Qs(l:Sl)(x:Int):bz [qb]:=⟨297,[.lf (.sl l),vi x]⟩
def Vo(Nv bw:Int):bz [qb]:=⟨298,[vu Nv,vu bw]⟩
def Qt(x:Int):bz [qb]:=⟨299,[vu x]⟩
def JL(t:bO)(i:Int):bz [qi]:=⟨300,[vp t,vi i]⟩
def Qu(x y:Int):bz [qu,qu]:=⟨301,[vu x,vu y]⟩
def Vp(s:Sl)(f:Fv):bz [qi]:=⟨302,[.lf (.sl s),.lf (.fn f)]⟩
def Qv(p:bO)(s:jT):bz []:=⟨303,[vp p,.agg (Ks.mk aW s)]⟩
def Mf(p:bO):bz []:=⟨304,[vp p]⟩
def Vq(d:bO)(o:jT):bz []:=⟨305,[vp d,.agg (Ks.mk aW o)]⟩
def Vr(d:bO)(o a:Int):bz [qu]:=⟨306,[vp d,vu o,vu a]⟩
def Vs(c:bO)(over:Bool)(bn flight up one:Int):bz [qb]:=⟨307,[vp c,.lf (.bool over),vu bn,vu flight,vu up,vu one]⟩
def Qw(c:bO)(af phase:Int):bz []:=⟨308,[vp c,vu af,vi phase]⟩
def Qx(bw bX gain:Int):bz [qu]:=⟨309,[vu bw,vu bX,vu gain]⟩
def Qy(m:bO)(af:Int):bz []:=⟨310,[vp m,vu af]⟩
def Vt(d:bO)(o a:Int)(a':Bool)(a'' a''':Int):bz [qb,qb]:=⟨311,[vp d,vu o,vu a,.lf (.bool a'),.lf (.int .u64 a''),.lf (.int .u64 a''')]⟩
def Mg(m:bO):bz [qu]:=⟨312,[vp m]⟩
def Qz(m:bO):bz []:=⟨313,[vp m]⟩
def Vu(bw bX gain tso bs:Int):bz [qu]:=⟨314,[vu bw,vu bX,vu gain,vu tso,vu bs]⟩
def Vv(m:bO):bz [qu]:=⟨315,[vp m]⟩
def Vw(yield:Fv)(c0:Pt):bz []:=⟨316,[.lf (.fn yield),.lf (.ptr (some c0))]⟩
def Vx(p:bO)(s:jT):bz [qu,qb]:=⟨317,[vp p,.agg (Ks.mk aW s)]⟩
def Vy(a b:Int):bz [qu]:=⟨318,[vu a,vu b]⟩
def Gs(t:Int)(s:Int×Int)(kQ:Int):bz [qb]:=⟨319,[vu t,.agg (Ks.mk cr s),vu kQ]⟩
def Vz(m:bO)(t v:Int):bz []:=⟨320,[vp m,vu t,vu v]⟩
def Mh(m:bO)(from':Int)(s:Int×Int):bz []:=⟨321,[vp m,.lf (.int .i64 from'),.agg (Ks.mk cr s)]⟩
def QA(m:bO)(s:Int×Int):bz []:=⟨322,[vp m,.agg (Ks.mk cr s)]⟩
def VA(p:bO)(af:Int)(start:Bool)(flight floor:Int):bz [qb]:=⟨323,[vp p,vu af,.lf (.bool start),vu flight,vu floor]⟩
def Mi(a b:Int):bz [qu]:=⟨324,[vu a,vu b]⟩
end Go.X
