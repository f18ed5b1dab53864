/- What each function computes, as a weakest precondition; the kernel sees that the code says so. -/
import Derived.Test.YtaimlgfepkopkaaGreatG
set_option linter.all false
namespace Go.X
open Go.Proofs
def uA(x y c:Int)(R:Rs.T [qu,qu]→WP):WP:=
 d_ ((0≤x∧0≤y)∧0≤c∧c≤1)<|
 R ((x+y+c)%18446744073709551616,(x+y+c)/18446744073709551616)
theorem re(x y c:Int)(R:Rs.T [qu,qu]→WP)(w:World)(h:uA x y c R w):
   kh Tryz.prog lh ([vu x,vu y,vu c].map V1.enc) w λv w'=>∃x,v=(mE (Rs.mk [qu,qu] x)).enc∧R x w':=by
 obtain⟨hp,h⟩:=h;exact BJ Tryz.func227 (by kernel_rfl) (by kernel_rfl) (by kernel_rfl) (x:=add64Entry) (by kernel_rfl) (run_add64 x y c hp.1.1 hp.1.2 hp.2.1 hp.2.2 w) ⟨_,rfl,h⟩
instance Z7(q:Option Pt)(ao:Int):bs (SJ q ao) λR=>
 loop ci 0 λa (c:Int)=>
 aq (decide (c<8)) (
 join cb (λd=>
 deref q λe=>
 d_ (0≤c∧c<8)<|
 qt ⟨e.b,e.o+57+c.toNat*1⟩ λf=>
 aq f (
 deref q λg=>
 d_ (0≤c∧c<8)<|
 de ⟨g.b,g.o+9+c.toNat*6+2⟩ λh=>
 aq (h==0) (
 deref q λi=>
 d_ (0≤c∧c<8)<|
 bz ⟨i.b,i.o+9+c.toNat*6+4⟩ λj=>
 aM (pO j 3000000000) λk=>
 d (decide (k≤ao)))<|
 d false)<|
 d false) λ(l:Bool)=>
 aq l (
 bF<|
 deref q λm=>
 deref q λn=>
 d_ (0≤c∧c<8)<|
 st ⟨m.b,m.o+57+c.toNat*1⟩ [.bool false]<|
 d_ (0≤c∧c<8)<|
 st ⟨n.b,n.o+9+c.toNat*6⟩ [zi,zi,zi,zu,zu,.sl ⟨none,0,0⟩]<|
 a (IntKind.i64.wrap (c+1)))<|
 a (IntKind.i64.wrap (c+1)))<|
 R ():=bt Tryz.func214 (uz 0x20fb832af772e9ec89bad47a7c2a5e46976265d059448430029440650009410c1002901102048041101182001)
instance Y3(q:Option Pt):bs (Kt q) λR=>
 loop [.int .i64,.int .i64] ((-1),0) λa (c:Int×Int)=>
 aq (decide (c.2<8)) (
 join cb (λd=>
 bF<|
 deref q λe=>
 d_ (0≤c.2∧c.2<8)<|
 qt ⟨e.b,e.o+57+c.2.toNat*1⟩ λf=>
 aq f (
 deref q λg=>
 d_ (0≤c.2∧c.2<8)<|
 de ⟨g.b,g.o+9+c.2.toNat*6+2⟩ λh=>
 aq (h==3) (
 aq (decide (c.1<0)) (
 d true)<|
 deref q λi=>
 deref q λj=>
 d_ (0≤c.2∧c.2<8)<|
 d_ (0≤c.1∧c.1<8)<|
 ld dx ⟨i.b,i.o+9+c.2.toNat*6⟩ λk=>
 ld dx ⟨j.b,j.o+9+c.1.toNat*6⟩ λl=>
 aM (Fm k) λm=>
 co ⟨j.b,j.o+9+c.1.toNat*6⟩ (Ks.mk dx l)<|
 aM (Fm l) λn=>
 d (decide (m<n)))<|
 d false)<|
 d false) λ(p:Bool)=>
 aq p (
 a (c.2,(IntKind.i64.wrap (c.2+1))))<|
 a (c.1,(IntKind.i64.wrap (c.2+1))))<|
 R c.1:=bt Tryz.func147 (uz 0x1c01e0d21929ce4863b72ae48adc6486aaa46aac24829a64669bed91fb689a462dba47a99e45e9b247699645a99037299006e99045699005298e14e98a14a984346941f3cfa5e3cea5d3cda5c3cca5b64f2ed68f2a960f2693c42293c01e918530a1290c90a51019400252030ad044081201044043086080041001001)
instance Y5(q:Option Pt)(i place:Int):bs (Fo q i place) λR=>
 deref q λa=>
 bO (OE (some ⟨a.b,a.o+65⟩) i) λc=>
 deref q λd=>
 d_ (0≤i∧i<8)<|
 st ⟨d.b,d.o+9+i.toNat*6+2⟩ [.int .i64 place]<|
 aq ((place==1)||(place==2)) (
 deref q λe=>
 bg (KA (some ⟨e.b,e.o+65⟩) i (place==1)) λf=>
 R ())<|
 R ():=bt Tryz.func149 (uz 0x10)
instance i93(d:Option Pt)(o a:Int)(a':Sl):bs (XX d o a a') λR=>
 deref d λc=>
 bE (Kr (some ⟨c.b,c.o+7⟩) a a') λ(e:Sl×Int×Int)=>
 aq (e.2.2 !=0) (
 R e.2.2)<|
 deref d λf=>
 bg (RR (some ⟨f.b,f.o+3⟩) a) λg=>
 loop ci 0 λh (i:Int)=>
 aq (decide (i<((e.1.len:Nat):Int))) (
 bF<|
 deref d λj=>
 idx e.1 i 9 λk=>
 idx e.1 i 9 λl=>
 idx e.1 i 9 λm=>
 cZ k 1 λn=>
 bz l λp=>
 lo bZ m 2 λ(q:lm)=>
 bS (RS (some ⟨j.b,j.o+9⟩) o (IntKind.u64.wrap (n-p)) q) λr=>
 h (IntKind.i64.wrap (i+1)))<|
 bF<|
 deref d λs=>
 deref d λt=>
 deref d λu=>
 fx s 20 λv=>
 aM (Fh (some ⟨u.b,u.o+7⟩)) λw=>
 kY s 20 v<|
 bE (Oo (some ⟨t.b,t.o+9⟩) o e.2.1 w) λ(x:eI)=>
 kY s 20 v<|
 bg (Fi d) λy=>
 kY s 20 v<|
 bE (On v x (IntKind.u64.wrap y)) λ(z:eN)=>
 R 0:=bt Tryz.func93 (uz 0x1e085e511b907cf99d6585cdc9c3260cb1822850403a500994a2250479401250009790c102091f5135327993a94cd2123070a1811a5b68ba56546a413109493e530a94926530594912504394002590308120104c046080041001241001001)
instance i95(s:Option Pt)(n:Int):bs (TF s n) λR=>
 join [] (λa=>
 aq (decide (n<1)) (
 R 1)<|
 deref s λb=>
 cZ b 21 λc=>
 aq (decide ((IntKind.u64.wrap n)>c)) (
 R 1)<|
 a ()) λ(d:Unit)=>
 deref s λe=>
 cZ e 21 λf=>
 deref s λg=>
 so g 21 [.int .u64 (IntKind.u64.wrap (f-(IntKind.u64.wrap n)))]<|
 R 0:=bt Tryz.func95 (uz 0x209004001)
instance Y1(d:Option Pt)(o:Int):bs (Oq d o) λR=>
 new [zi,zu,zi,zu,.bool false] λa=>
 deref d λc=>
 bE (SC (some ⟨c.b,c.o+7⟩)) λ(e:(Int×Int)×Bool)=>
 new [zu,zu] λf=>
 st ⟨f,0⟩ (Ks.mk cr e.1)<|
 deref d λg=>
 aM (Fh (some ⟨g.b,g.o+7⟩)) λh=>
 join cb (λi=>
 bF<|
 aq (!e.2) (
 deref d λj=>
 deref d λk=>
 cZ j 5 λl=>
 cZ k 6 λm=>
 i (l==m))<|
 i false) λ(n:Bool)=>
 aq n (
 deref d λp=>
 fx p 20 λq=>
 deref q λr=>
 cZ r 25 λs=>
 aq (decide (h<s)) (
 deref d λt=>
 bS (SD (some ⟨t.b,t.o+9⟩) h) λu=>
 st ⟨a,0⟩ [zi,zu,zi,zu,.bool false]<|
 ld aS ⟨a,0⟩ λv=>
 R (v,7))<|
 st ⟨a,0⟩ [zi,zu,zi,zu,.bool false]<|
 ld aS ⟨a,0⟩ λw=>
 R (w,7))<|
 join cb (λx=>
 bF<|
 deref d λy=>
 fx y 20 λz=>
 deref z λA=>
 cZ A 25 λB=>
 aq (decide (h≥B)) (
 x true)<|
 deref d λC=>
 deref d λD=>
 deref d λE=>
 cZ C 21 λF=>
 fx D 20 λG=>
 gw E 2 λH=>
 deref G λI=>
 cZ I 24 λJ=>
 bg (Fi d) λK=>
 jy I 24 J<|
 FO E 2 H<|
 kY D 20 G<|
 jy C 21 F<|
 aM (SE J K H) λL=>
 jy C 21 F<|
 aq (decide (F≥L)) (
 x true)<|
 aq (!e.2) (
 deref d λM=>
 iS M 7 λN=>
 x (decide (((N.len:Nat):Int)≥4096)))<|
 x false) λ(O:Bool)=>
 aq O (
 st ⟨a,0⟩ [zi,zu,zi,zu,.bool false]<|
 ld aS ⟨a,0⟩ λQ=>
 R (Q,5))<|
 deref d λS=>
 bE (SF (some ⟨S.b,S.o+9⟩) o h) λ(T:lm)=>
 new [zu,zu,zu,zu,.bool false] λU=>
 st ⟨U,0⟩ (Ks.mk bZ T)<|
 join [] (λV=>
 aq e.2 (
 bF<|
 ld bZ ⟨U,0⟩ λX=>
 deref d λY=>
 bE (SG (some ⟨Y.b,Y.o+7⟩) X) λ(Z:(Int×Int)×Bool)=>
 V ())<|
 bF<|
 deref d λa0=>
 bg (Fi d) λa1=>
 bE (SH (some ⟨a0.b,a0.o+3⟩) a1) λ(a2:(Int×Int)×Bool)=>
 st ⟨f,0⟩ (Ks.mk cr a2.1)<|
 bF<|
 ld bZ ⟨U,0⟩ λa3=>
 deref d λa4=>
 bz ⟨f,0⟩ λa5=>
 bz ⟨f,1⟩ λa6=>
 bg (SI (some ⟨a4.b,a4.o+7⟩) a5 a6 a3) λa7=>
 V ()) λ(a8:Unit)=>
 bz ⟨f,1⟩ λa9=>
 bz ⟨f,0⟩ λb0=>
 bF<|
 deref d λb1=>
 bz ⟨f,0⟩ λb2=>
 deref d λb3=>
 de b1 λb4=>
 cZ b3 22 λb5=>
 new [zi,zu,zi,zu,.bool false] λb6=>
 jy b3 22 b5<|
 co b1 (Ks.mk ci b4)<|
 co ⟨f,0⟩ (Ks.mk cu b2)<|
 st ⟨b6,0⟩ [.int .i64 b4,.int .u64 b2,.int .i64 (IntKind.i64.wrap (IntKind.u64.wrap (a9-b0))),.int .u64 (if b5>o then b5 else o),.bool e.2]<|
 bF<|
 bz ⟨b6,3⟩ λb7=>
 deref d λb8=>
 fx b8 20 λb9=>
 deref b9 λc0=>
 cZ c0 24 λc1=>
 aM (Ku (IntKind.i64.wrap (IntKind.u64.wrap (a9-b0))) c1) λc2=>
 co ⟨b6,3⟩ (Ks.mk cu b7)<|
 aM (pO b7 c2) λc3=>
 deref d λc4=>
 so c4 22 [.int .u64 c3]<|
 deref d λc5=>
 cZ c5 21 λc6=>
 aM (pO c6 (IntKind.u64.wrap (IntKind.i64.wrap (IntKind.u64.wrap (a9-b0))))) λc7=>
 deref d λc8=>
 so c8 21 [.int .u64 c7]<|
 ld aS ⟨b6,0⟩ λc9=>
 st ⟨a,0⟩ (Ks.mk aS c9)<|
 ld aS ⟨a,0⟩ λd0=>
 R (d0,0):=bt Tryz.func145 (uz 0x881f74fa8e44d95c4cca9b50ba8a2481c614200494a0e52c194002557ffc30607cb42a3e279d5d650ed5c60ca4b0ca0891411cd94022504794a1a51849400251bffc3040060617553232086101247946165183940025dbf0e05c626a4089501e51954c5a94126081003940025bbf0c18144c4a820490e5000968fc304004010004c83abeaa79cafa6de32a29df29e9db29a9d72969d32929cf28e9c808a9c6f869c2f829bc77e97ad69da6c79a72dae795a6f299a5aa91a5298da4e989a4a9a9a6a985a46975a369a5a66981a42971a329a1a6297da3e96da2e96805e96805696803a96802a9258448a471851030800652009740c283f04406d81e4cea5d61336d7133295d31e96d32e95931a96932a95531696532695131294c02294c00e90811c09560c2941101001001001)
instance i94(s:Option Pt)(ao:Int):bs (XY s ao) λR=>
 deref s λa=>
 aM (RT (some ⟨a.b,a.o+7⟩)) λc=>
 bF<|
 deref s λd=>
 deref s λe=>
 deref s λf=>
 fx d 20 λg=>
 aM (Fh (some ⟨f.b,f.o+7⟩)) λh=>
 kY d 20 g<|
 bE (Oo (some ⟨e.b,e.o+9⟩) ao c h) λ(i:eI)=>
 kY d 20 g<|
 bg (Fi s) λj=>
 kY d 20 g<|
 bE (On g i (IntKind.u64.wrap j)) λ(k:eN)=>
 R ():=bt Tryz.func94 (uz 0x82178c46e41f3e675960f37270c9832c608a14100e9402651089411e5004940025203001)
instance Yk(s:Option Pt):bs (Fi s) λR=>
 bF<|
 deref s λa=>
 deref s λb=>
 fx a 20 λc=>
 gw b 1 λd=>
 deref c λe=>
 cZ e 24 λf=>
 bg (RY f d) λg=>
 R g:=bt Tryz.func102 (uz 0x80e3263492ea18510a0c90880401e50009420c1001)
instance Y4(f:pJ):bs (Fm f) λR=>
 new (Ks.mk dx f) λa=>
 bF<|
 bz ⟨a,3⟩ λb=>
 ec ⟨a,5⟩ λc=>
 idx c 0 5 λd=>
 cZ d 3 λe=>
 R (if e>b then e else b):=bt Tryz.func148 (uz 0x80a2262441e91851030410a50409420c1001)
instance Y_(rates:Sl)(i:Int):bs (RX rates i) λR=>
 aq (decide (i<((rates.len:Nat):Int))) (
 idx rates i 1 λa=>
 bz a λb=>
 R b)<|
 R 18446744073709551615:=bt Tryz.func154 (uz 0xa)
instance ZQ(p:qY)(l:Sl):bs (Su p l) λR=>
 new (Ks.mk aD p) λa=>
 loop ci 0 λb (c:Int)=>
 aq (decide (c<((l.len:Nat):Int))) (
 bF<|
 idx l c 2 λd=>
 bz ⟨a,0⟩ λe=>
 bz d λf=>
 aq (decide (f≤e)) (
 idx l c 2 λg=>
 bz ⟨a,1⟩ λh=>
 cZ g 1 λi=>
 aq (decide (i≥h)) (
 R true)<|
 b (IntKind.i64.wrap (c+1)))<|
 b (IntKind.i64.wrap (c+1)))<|
 R false:=bt Tryz.func197 (uz 0x1c032085946981e650b5d64da5c64ca5f64fa5b6992ed6423a96452a9641269217547a440c634c0a908594506504094b0c1081201045046080041001)
instance i40(c:Option Pt)(to':Int):bs (Xs c to') λR=>
 aq c.isNone (
 R 2)<|
 aq (decide (to'>4611686018427387904)) (
 R 3)<|
 deref c λa=>
 bz a λb=>
 aq (decide (to'<b)) (
 R 4)<|
 deref c λd=>
 st d [.int .u64 to']<|
 R 0:=bt Tryz.func40 (uz 0x215081001)
instance i45(c:Option Pt):bs (Xx c) λR=>
 aq c.isNone (
 R 0)<|
 deref c λa=>
 bz a λb=>
 R b:=bt Tryz.func45 (uz 0xa)
instance i37(kE:Int):bs (Xq kE) λR=>
 new [.int .u64 kE] λa=>
 aM (XM ⟨some ⟨a,0⟩,1,1⟩) λb=>
 new [.int .u64 b] λc=>
 R (some ⟨c,0⟩):=bt Tryz.func37 (uz 8)
instance i69(l:Sl):bs (XM l) λR=>
 loop [.int .u64,.int .i64] (4611686018427387904,0) λa (b:Int×Int)=>
 aq (decide (b.2<((l.len:Nat):Int))) (
 idx l b.2 1 λc=>
 bz c λd=>
 aq (decide (d≥b.1)) (
 a (b.1,(IntKind.i64.wrap (b.2+1))))<|
 a (d,(IntKind.i64.wrap (b.2+1))))<|
 R b.1:=bt Tryz.func69 (uz 0x70110811c1001048003086080041001001001)
instance aaX(x y:Int):bs (OS x y) λR=>
 bO (OV x) λa=>
 bO (OV y) λb=>
 aq a (
 aq b (
 R 0)<|
 R (-1))<|
 aq b (
 R 1)<|
 aq (decide (x<y)) (
 R (-1))<|
 aq (decide (x>y)) (
 R 1)<|
 R 0:=bt Tryz.func268 (uz 0x2e)
instance aaW(vals:Sl):bs (Td vals) λR=>
 loop ci 0 λa (b:Int)=>
 aq (decide (b<((vals.len:Nat):Int))) (
 idx vals b 1 λc=>
 de c λd=>
 aq (d !=0) (
 R d)<|
 a (IntKind.i64.wrap (b+1)))<|
 R 0:=bt Tryz.func267 (uz 0x700f0811c1001048046080041001001)
instance abk(x:Int):bs (OV x) λR=>
 R (x !=x):=bt Tryz.func292 (uz 8)
instance ZM(c:Option Pt):bs (Sr c) λR=>
 aq (!c.isNone) (
 deref c λa=>
 de a λb=>
 aq (b==0) (
 R 320)<|
 aq (b==1) (
 R 192)<|
 R 256)<|
 R 256:=bt Tryz.func193 (uz 0x1c0342001040041001)
instance YP(c:Option Pt):bs (RO c) λR=>
 aq c.isNone (
 R 0)<|
 deref c λa=>
 de a λb=>
 R b:=bt Tryz.func133 (uz 0xa)
instance abu(c:Option Pt)(ao phase:Int):bs (OY c ao phase) λR=>
 aq (!c.isNone) (
 deref c λa=>
 st a [.int .i64 ((IntKind.i64.wrap ((phase.tmod 8)+8)).tmod 8)]<|
 deref c λb=>
 so b 1 [.int .u64 ao]<|
 R ())<|
 R ():=bt Tryz.func301 (uz 8)
instance aa_(c:Option Pt)(ao bG be flight up one:Int):bs (Tj c ao bG be flight up one) λR=>
 loop cb false λa (b:Bool)=>
 join [] (λd=>
 aq (!c.isNone) (
 deref c λe=>
 cZ e 1 λf=>
 aM (yh ao f) λg=>
 bO (Tw c (decide (g>bG)) be flight up one) λh=>
 aq h (
 d ())<|
 R b)<|
 R b) λ(i:Unit)=>
 deref c λj=>
 de j λk=>
 bS (OY c ao (IntKind.i64.wrap (k+1))) λl=>
 R true:=bt Tryz.func281 (uz 0x1c808800408f046081001001001)
instance abt(c:Option Pt)(over:Bool)(be flight up one:Int):bs (Tw c over be flight up one) λR=>
 deref c λa=>
 de a λb=>
 aq (b==0) (
 R (over&&((decide (be>0))||(decide (flight≥up)))))<|
 aq (b==1) (
 R (over||(decide (flight≤one))))<|
 R over:=bt Tryz.func300 (uz 0x1cd080041001)
instance Zr:bs R8 λR=>
 new [zi,zu] λa=>
 R (some ⟨a,0⟩):=bt Tryz.func172 (uz 8)
instance Zn(a b:Int):bs (R4 a b) λR=>
 loop [.int .u64,.int .i64] (18446744073709551615,0) λc (d:Int×Int)=>
 aq (decide (d.2<2)) (
 VI [.int .u64] [.int .u64 a,.int .u64 b] d.2 2 1 λ(e:Int)=>
 aq (e==0) (
 c (d.1,(IntKind.i64.wrap (d.2+1))))<|
 c ((if e<d.1 then e else d.1),(IntKind.i64.wrap (d.2+1))))<|
 R d.1:=bt Tryz.func168 (uz 0x70110811c100104b005086080041001001001)
instance Zm(size aQ:Int):bs (Al size aQ) λR=>
 aq ((decide (size<1))||(aQ==18446744073709551615)) (
 R 0)<|
 aM (Du (IntKind.u64.wrap size) 1000000000 aQ) λa=>
 R (if 1000000000<a then 1000000000 else a):=bt Tryz.func167 (uz 0xa)
instance i21(m:Option Pt)(sock:Int):bs (Xe m sock) λR=>
 new [zi,zi,zi,zi,zi,zi,zi,zi] λa=>
 aq m.isNone (
 st ⟨a,0⟩ [zi,zi,zi,zi,zi,zi,zi,zi]<|
 ld nz ⟨a,0⟩ λb=>
 R b)<|
 deref m λc=>
 fx c 19 λd=>
 bE (Xy d sock) λ(e:Rg×Int)=>
 new [zi,zi,zi,zi,zi,zi,zi,zi] λf=>
 st ⟨f,0⟩ (Ks.mk nz e.1)<|
 ld nz ⟨f,0⟩ λg=>
 st ⟨a,0⟩ (Ks.mk nz g)<|
 ld nz ⟨a,0⟩ λh=>
 R h:=bt Tryz.func21 (uz 0x16)
instance i18(m:Option Pt)(d:dk):bs (Wr m d) λR=>
 new (Ks.mk aY d) λa=>
 new [.sl ⟨none,0,0⟩,.sl ⟨none,0,0⟩,.sl ⟨none,0,0⟩,zu] λb=>
 aq m.isNone (
 st ⟨b,0⟩ [.sl ⟨none,0,0⟩,.sl ⟨none,0,0⟩,.sl ⟨none,0,0⟩,zu]<|
 ld dz ⟨b,0⟩ λc=>
 R (c,2))<|
 new [.sl ⟨none,0,0⟩,.sl ⟨none,0,0⟩,.sl ⟨none,0,0⟩,zu] λe=>
 join ci (λf=>
 de ⟨a,0⟩ λg=>
 aq (g==5) (
 bF<|
 deref m λh=>
 bz ⟨a,4⟩ λi=>
 fx h 9 λj=>
 bg (Xs j i) λk=>
 f k)<|
 aq (g==6) (
 bS (Xt m (some ⟨e,0⟩)) λl=>
 f 0)<|
 aq (g==8) (
 ld aW ⟨a,6⟩ λn=>
 bg (Xu m n) λo=>
 f o)<|
 join cb (λp=>
 aq (g==1) (
 p (g==1))<|
 aq (g==2) (
 p (g==2))<|
 aq (g==3) (
 p (g==3))<|
 aq (g==4) (
 p (g==4))<|
 aq (g==7) (
 p (g==7))<|
 p (g==9)) λ(q:Bool)=>
 aq q (
 ld aY ⟨a,0⟩ λr=>
 bg (Xv m r (some ⟨e,0⟩)) λs=>
 f s)<|
 f 12) λ(t:Int)=>
 aq (t !=0) (
 st ⟨b,0⟩ [.sl ⟨none,0,0⟩,.sl ⟨none,0,0⟩,.sl ⟨none,0,0⟩,zu]<|
 ld dz ⟨b,0⟩ λu=>
 R (u,t))<|
 ld dz ⟨e,0⟩ λv=>
 st ⟨b,0⟩ (Ks.mk dz v)<|
 ld dz ⟨b,0⟩ λw=>
 R (w,0):=bt Tryz.func18 (uz 0x1d1dc0a00440010010010018171e65941aa0c21410c4940025383040042001047044001001241001)
instance i30(m:Option Pt)(sock:Int):bs (Xk m sock) λR=>
 new [zi,zi,zi,zu,zu,.sl ⟨none,0,0⟩] λa=>
 aq m.isNone (
 st ⟨a,0⟩ [zi,zi,zi,zu,zu,.sl ⟨none,0,0⟩]<|
 ld dx ⟨a,0⟩ λb=>
 R (b,false))<|
 deref m λc=>
 fx c 18 λd=>
 bE (XB d sock) λ(e:pJ×Bool)=>
 st ⟨a,0⟩ (Ks.mk dx e.1)<|
 ld dx ⟨a,0⟩ λf=>
 R (f,e.2):=bt Tryz.func30 (uz 0xa)
instance i28(m:Option Pt)(sock:Int):bs (Xj m sock) λR=>
 new [zi,zi,zu,zu,zu,zu,zu,zu,.bool false,.bool false] λa=>
 ko (Wu m sock) λb=>
 bE (Vs b) λ(c:eN)=>
 st ⟨a,0⟩ (Ks.mk bC c)<|
 ld bC ⟨a,0⟩ λd=>
 R (d,(!b.isNone)):=bt Tryz.func28 (uz 0xb)
instance i20(m:Option Pt):bs (OG m) λR=>
 aq m.isNone (
 R 0)<|
 deref m λa=>
 fx a 9 λb=>
 aM (Xx b) λc=>
 R c:=bt Tryz.func20 (uz 0xa)
instance i19(m:Option Pt):bs (Ws m) λR=>
 aq m.isNone (
 R 0)<|
 deref m λa=>
 fx a 18 λb=>
 bg (Xw b) λc=>
 R c:=bt Tryz.func19 (uz 0xa)
instance i26(m:Option Pt)(sock:Int):bs (Xh m sock) λR=>
 new [zu,zu,zu,zi] λa=>
 ko (Wu m sock) λb=>
 aM (Wv b) λc=>
 aM (NR b) λd=>
 aM (Ww b) λe=>
 bg (II b) λf=>
 st ⟨a,0⟩ [.int .u64 c,.int .u64 d,.int .u64 e,.int .i64 f]<|
 ld qn ⟨a,0⟩ λg=>
 R (g,(!b.isNone)):=bt Tryz.func26 (uz 0xb)
instance YC(m o:Option Pt)(s:gG)(fate:Int):bs (Oi m o s fate) λR=>
 new (Ks.mk aS s) λa=>
 bF<|
 deref m λb=>
 de ⟨a,0⟩ λc=>
 fx b 19 λd=>
 bg (QD d c fate) λe=>
 bF<|
 ld aS ⟨a,0⟩ λf=>
 deref o λg=>
 deref o λh=>
 iS g 1 λi=>
 iS h 2 λj=>
 both (
 new [.int .i64 f.1,.int .u64 f.2.1,.int .i64 f.2.2.1,.int .u64 f.2.2.2.1,.bool f.2.2.2.2] λk=>
 ry h 2 j<|
 ry g 1 i<|
 both (
 mw 5 i ⟨some ⟨k,0⟩,1,1⟩ λl=>
 ry h 2 j<|
 new [.int .i64 fate] λn=>
 ry h 2 j<|
 ry g 1 i<|
 co ⟨a,0⟩ (Ks.mk aS f)<|
 mw 1 j ⟨some ⟨n,0⟩,1,1⟩ λp=>
 deref o λq=>
 so q 1 [.sl l]<|
 deref o λr=>
 so r 2 [.sl p]<|
 R ())<|
 new [.int .i64 fate] λt=>
 ry h 2 j<|
 ry g 1 i<|
 co ⟨a,0⟩ (Ks.mk aS f)<|
 mw 5 i ⟨some ⟨k,0⟩,1,1⟩ λu=>
 ry h 2 j<|
 mw 1 j ⟨some ⟨t,0⟩,1,1⟩ λv=>
 deref o λw=>
 so w 1 [.sl u]<|
 deref o λx=>
 so x 2 [.sl v]<|
 R ())<|
 new [.int .i64 fate] λy=>
 ry h 2 j<|
 ry g 1 i<|
 co ⟨a,0⟩ (Ks.mk aS f)<|
 new [.int .i64 f.1,.int .u64 f.2.1,.int .i64 f.2.2.1,.int .u64 f.2.2.2.1,.bool f.2.2.2.2] λz=>
 ry h 2 j<|
 ry g 1 i<|
 mw 5 i ⟨some ⟨z,0⟩,1,1⟩ λA=>
 ry h 2 j<|
 mw 1 j ⟨some ⟨y,0⟩,1,1⟩ λB=>
 deref o λC=>
 so C 1 [.sl A]<|
 deref o λD=>
 so D 2 [.sl B]<|
 R ():=bt Tryz.func120 (uz 0x824815aa3525493962652a9145095f74fa98588a971e678e9a092056a8d49524e58994aa4514257dd3ea61622a78e9a092056a8d49524e58994aa4514257dd3ea78e998588ad71e73052c42830cd9412651869410a50419410253c380e34b1ee0c21410c69461250009470c1001)
instance i43(d:Option Pt)(o:dk)(a:Option Pt):bs (Xv d o a) λR=>
 new (Ks.mk aY o) λc=>
 de ⟨c,1⟩ λe=>
 bO (Wz e) λf=>
 aq (!f) (
 R 8)<|
 bF<|
 de ⟨c,1⟩ λg=>
 deref d λh=>
 d_ (0≤g∧g<8)<|
 pC ⟨h.b,h.o+10+g.toNat*1⟩ λi=>
 de ⟨c,0⟩ λj=>
 aq ((j==1)&&(!i.isNone)) (
 R 9)<|
 de ⟨c,0⟩ λk=>
 aq (k==1) (
 bF<|
 de ⟨c,1⟩ λl=>
 de ⟨c,1⟩ λm=>
 deref d λn=>
 deref d λp=>
 ld aW n λq=>
 ko (XO m q) λr=>
 co ⟨c,1⟩ (Ks.mk ci l)<|
 d_ (0≤l∧l<8)<|
 st ⟨p.b,p.o+10+l.toNat*1⟩ [.ptr r]<|
 R 0)<|
 aq i.isNone (
 R 10)<|
 de ⟨c,0⟩ λs=>
 aq (s==9) (
 de ⟨c,1⟩ λt=>
 bS (XP d t a) λu=>
 R 0)<|
 bF<|
 ld aY ⟨c,0⟩ λv=>
 aM (OG d) λw=>
 co ⟨c,0⟩ (Ks.mk aY v)<|
 bg (XQ i v w) λx=>
 aq (x==0) (
 de ⟨c,1⟩ λy=>
 bS (XR d y a) λz=>
 R x)<|
 R x:=bt Tryz.func43 (uz 0x4a054599449112e4c39800a5101947025e0306f1e075a36a71332965526a20b1d12a518408016510394406500095f0c10400470400420605c798654f16910d0e508406500094c0c1241001)
instance i50(m:Option Pt)(i:Int):bs (Wu m i) λR=>
 join [] (λa=>
 aq m.isNone (
 R none)<|
 bO (Wz i) λc=>
 aq (!c) (
 R none)<|
 a ()) λ(d:Unit)=>
 deref m λe=>
 d_ (0≤i∧i<8)<|
 pC ⟨e.b,e.o+10+i.toNat*1⟩ λf=>
 R f:=bt Tryz.func50 (uz 0x1c9004001)
instance i41(m o:Option Pt):bs (Xt m o) λR=>
 bF<|
 deref m λa=>
 fx a 18 λb=>
 both (
 aM (OG m) λc=>
 kY a 18 b<|
 both (
 bE (Vt m) λ(d:Sl)=>
 kY a 18 b<|
 both (
 bE (UH b c d) λ(e:gG×Bool)=>
 new [zi,zu,zi,zu,.bool false] λf=>
 kY a 18 b<|
 st ⟨f,0⟩ (Ks.mk aS e.1)<|
 aq e.2 (
 bF<|
 deref m λg=>
 de ⟨f,0⟩ λh=>
 fx g 19 λi=>
 bg (QD i h 1) λj=>
 ld aS ⟨f,0⟩ λk=>
 new [.int .i64 k.1,.int .u64 k.2.1,.int .i64 k.2.2.1,.int .u64 k.2.2.2.1,.bool k.2.2.2.2] λl=>
 deref o λn=>
 st n [.sl ⟨some ⟨l,0⟩,1,1⟩]<|
 R ())<|
 deref m λp=>
 fx p 18 λq=>
 bE (UI q) λ(r:Int×Bool)=>
 aq r.2 (
 deref o λs=>
 so s 3 [.int .u64 (if 1>r.1 then 1 else r.1)]<|
 R ())<|
 R ())<|
 new [zi,zu,zi,zu,.bool false] λt=>
 kY a 18 b<|
 bE (UH b c d) λ(u:gG×Bool)=>
 st ⟨t,0⟩ (Ks.mk aS u.1)<|
 aq u.2 (
 bF<|
 deref m λv=>
 de ⟨t,0⟩ λw=>
 fx v 19 λx=>
 bg (QD x w 1) λy=>
 ld aS ⟨t,0⟩ λz=>
 new [.int .i64 z.1,.int .u64 z.2.1,.int .i64 z.2.2.1,.int .u64 z.2.2.2.1,.bool z.2.2.2.2] λA=>
 deref o λB=>
 st B [.sl ⟨some ⟨A,0⟩,1,1⟩]<|
 R ())<|
 deref m λC=>
 fx C 18 λD=>
 bE (UI D) λ(E:Int×Bool)=>
 aq E.2 (
 deref o λF=>
 so F 3 [.int .u64 (if 1>E.1 then 1 else E.1)]<|
 R ())<|
 R ())<|
 new [zi,zu,zi,zu,.bool false] λG=>
 kY a 18 b<|
 bE (Vt m) λ(H:Sl)=>
 kY a 18 b<|
 bE (UH b c H) λ(I:gG×Bool)=>
 st ⟨G,0⟩ (Ks.mk aS I.1)<|
 aq I.2 (
 bF<|
 deref m λJ=>
 de ⟨G,0⟩ λK=>
 fx J 19 λL=>
 bg (QD L K 1) λM=>
 ld aS ⟨G,0⟩ λN=>
 new [.int .i64 N.1,.int .u64 N.2.1,.int .i64 N.2.2.1,.int .u64 N.2.2.2.1,.bool N.2.2.2.2] λO=>
 deref o λQ=>
 st Q [.sl ⟨some ⟨O,0⟩,1,1⟩]<|
 R ())<|
 deref m λS=>
 fx S 18 λT=>
 bE (UI T) λ(U:Int×Bool)=>
 aq U.2 (
 deref o λV=>
 so V 3 [.int .u64 (if 1>U.1 then 1 else U.1)]<|
 R ())<|
 R ())<|
 new [zi,zu,zi,zu,.bool false] λX=>
 kY a 18 b<|
 aM (OG m) λY=>
 kY a 18 b<|
 bE (Vt m) λ(Z:Sl)=>
 kY a 18 b<|
 bE (UH b Y Z) λ(a0:gG×Bool)=>
 st ⟨X,0⟩ (Ks.mk aS a0.1)<|
 aq a0.2 (
 bF<|
 deref m λa1=>
 de ⟨X,0⟩ λa2=>
 fx a1 19 λa3=>
 bg (QD a3 a2 1) λa4=>
 ld aS ⟨X,0⟩ λa5=>
 new [.int .i64 a5.1,.int .u64 a5.2.1,.int .i64 a5.2.2.1,.int .u64 a5.2.2.2.1,.bool a5.2.2.2.2] λa6=>
 deref o λa7=>
 st a7 [.sl ⟨some ⟨a6,0⟩,1,1⟩]<|
 R ())<|
 deref m λa8=>
 fx a8 18 λa9=>
 bE (UI a9) λ(b0:Int×Bool)=>
 aq b0.2 (
 deref o λb1=>
 so b1 3 [.int .u64 (if 1>b0.1 then 1 else b0.1)]<|
 R ())<|
 R ():=bt Tryz.func41 (uz 0xb007816506a830850441250009540c104004181b3a668436a20b9482a525838c22e3c798d16632281b3a668436a20b9482a525838c22e3c798c8a06ce99a10da882e520a94960e308b8c8a06ce99a10da8c8882e520a94960e308bcf1e73459c30810069401250009480c1)
instance i79(m:Option Pt)(i:Int)(o:Option Pt):bs (XR m i o) λR=>
 deref m λa=>
 d_ (0≤i∧i<8)<|
 pC ⟨a.b,a.o+10+i.toNat*1⟩ λc=>
 loop [] () λd (e:Unit)=>
 aM (OG m) λf=>
 bE (RM c f) λ(g:gG×Int)=>
 new [zi,zu,zi,zu,.bool false] λh=>
 st ⟨h,0⟩ (Ks.mk aS g.1)<|
 aq (g.2 !=0) (
 R ())<|
 deref m λj=>
 fx j 19 λk=>
 bg (QD k i 0) λl=>
 bF<|
 ld aS ⟨h,0⟩ λn=>
 deref m λp=>
 fx p 18 λq=>
 aM (OG m) λr=>
 kY p 18 q<|
 co ⟨h,0⟩ (Ks.mk aS n)<|
 bE (RN q n r) λ(s:Int×Int)=>
 aq (s.1==0) (
 d ())<|
 ld aS ⟨h,0⟩ λt=>
 bS (Oi m o t s.1) λu=>
 de ⟨h,2⟩ λv=>
 bg (Oj c v) λw=>
 R ():=bt Tryz.func79 (uz 0xc2068c9992e640a9502652175541ee5869830810059471250009600c1001201001080182001001)
instance i71(m:Option Pt):bs (Vt m) λR=>
 deref m λa=>
 lo U0 a 10 λ(b:W5)=>
 loop [.sl,.int .i64] (⟨none,0,0⟩,0) λc (d:Sl×Int)=>
 aq (decide (d.2<8)) (
 VI [.ptr] (Ks.mk U0 b) d.2 8 1 λ(e:Option Pt)=>
 join cu (λf=>
 aq (!e.isNone) (
 bE (Vs e) λ(g:eN)=>
 f g.2.2.1)<|
 f 18446744073709551615) λ(h:Int)=>
 new [.int .u64 h] λi=>
 mw 1 d.1 ⟨some ⟨i,0⟩,1,1⟩ λj=>
 c (j,(IntKind.i64.wrap (d.2+1))))<|
 R d.1:=bt Tryz.func71 (uz 0x1c00080060440010010811c100104b103086080041001001)
instance i42(m:Option Pt)(c:cP):bs (Xu m c) λR=>
 new (Ks.mk aW c) λa=>
 bF<|
 ld aW ⟨a,0⟩ λb=>
 deref m λd=>
 fx d 18 λe=>
 bg (XN e b) λf=>
 aq (f==0) (
 ld aW ⟨a,0⟩ λg=>
 deref m λh=>
 st h (Ks.mk aW g)<|
 R f)<|
 R f:=bt Tryz.func42 (uz 0x1280b1a628916a0c20431250009450c1001)
instance i77(m:Option Pt)(i:Int)(o:Option Pt):bs (XP m i o) λR=>
 deref m λa=>
 d_ (0≤i∧i<8)<|
 st ⟨a.b,a.o+10+i.toNat*1⟩ [.ptr none]<|
 deref m λc=>
 fx c 18 λd=>
 bE (RI d i) λ(e:Sl)=>
 loop ci 0 λf (g:Int)=>
 aq (decide (g<((e.len:Nat):Int))) (
 idx e g 5 λh=>
 ld aS h λj=>
 new [zi,zu,zi,zu,.bool false] λk=>
 st ⟨k,0⟩ (Ks.mk aS j)<|
 ld aS ⟨k,0⟩ λl=>
 bS (Oi m o l 5) λn=>
 f (IntKind.i64.wrap (g+1)))<|
 R ():=bt Tryz.func77 (uz 0x1c2047040041501182001001)
instance i16(c:cP):bs (Wq c) λR=>
 new (Ks.mk aW c) λa=>
 ld aW ⟨a,0⟩ λb=>
 bE (Xp b) λ(d:Option Pt×Int)=>
 aq (d.2 !=0) (
 R (none,d.2))<|
 bF<|
 ld aW ⟨a,0⟩ λe=>
 ko (Xq 0) λf=>
 co ⟨a,0⟩ (Ks.mk aW e)<|
 ko Xr λg=>
 co ⟨a,0⟩ (Ks.mk aW e)<|
 new [.int .i64 e.1,.int .i64 e.2.1,.int .i64 e.2.2.1,.int .i64 e.2.2.2.1,.int .u64 e.2.2.2.2.1,.int .u64 e.2.2.2.2.2.1,.bool e.2.2.2.2.2.2.1,.int .i64 e.2.2.2.2.2.2.2.1,.int .i64 e.2.2.2.2.2.2.2.2,.ptr f,.ptr none,.ptr none,.ptr none,.ptr none,.ptr none,.ptr none,.ptr none,.ptr none,.ptr d.1,.ptr g] λh=>
 R ((some ⟨h,0⟩),0):=bt Tryz.func16 (uz 0x8078a21a68459a07cf384c438818840a50010c1241001001)
instance i75(i:Int):bs (Wz i) λR=>
 R ((decide (i≥0))&&(decide (i<8))):=bt Tryz.func75 (uz 8)
instance i78(s:Option Pt)(d:dk)(ao:Int):bs (XQ s d ao) λR=>
 new (Ks.mk aY d) λa=>
 de ⟨a,0⟩ λb=>
 aq (b==2) (
 de ⟨a,2⟩ λc=>
 bg (RJ s c) λe=>
 R e)<|
 aq (b==3) (
 bz ⟨a,3⟩ λf=>
 ec ⟨a,5⟩ λg=>
 bg (RK s ao f g) λh=>
 R h)<|
 aq (b==4) (
 bg (RL s ao) λi=>
 R i)<|
 de ⟨a,2⟩ λj=>
 bg (Oj s j) λk=>
 R k:=bt Tryz.func78 (uz 0x1d5080041001)
instance i66(c:cP):bs (Wy c) λR=>
 new (Ks.mk aW c) λa=>
 de ⟨a,0⟩ λb=>
 bO (yg b 100 65536) λd=>
 aq d (
 de ⟨a,1⟩ λe=>
 bO (yg e 100 65536) λf=>
 aq f (
 de ⟨a,2⟩ λg=>
 bO (yg g 1 512) λh=>
 aq h (
 de ⟨a,3⟩ λi=>
 bO (yg i 1 512) λj=>
 aq j (
 bz ⟨a,4⟩ λk=>
 aq (decide (k≤4611686018427387904)) (
 de ⟨a,7⟩ λl=>
 bO (yg l 1 1073741824) λm=>
 aq m (
 de ⟨a,8⟩ λn=>
 bO (yg n 100 9000) λo=>
 R o)<|
 R false)<|
 R false)<|
 R false)<|
 R false)<|
 R false)<|
 R false:=bt Tryz.func66 (uz 8)
instance i36(c:cP):bs (Xp c) λR=>
 new (Ks.mk aW c) λa=>
 ld aW ⟨a,0⟩ λb=>
 bO (Wy b) λd=>
 aq (!d) (
 R (none,13))<|
 bF<|
 ld aW ⟨a,0⟩ λe=>
 ko XK λf=>
 co ⟨a,0⟩ (Ks.mk aW e)<|
 ko (XL 8) λg=>
 co ⟨a,0⟩ (Ks.mk aW e)<|
 new [.int .i64 e.1,.int .i64 e.2.1,.int .i64 e.2.2.1,.int .i64 e.2.2.2.1,.int .u64 e.2.2.2.2.1,.int .u64 e.2.2.2.2.2.1,.bool e.2.2.2.2.2.2.1,.int .i64 e.2.2.2.2.2.2.2.1,.int .i64 e.2.2.2.2.2.2.2.2,.ptr none,.ptr none,.ptr none,.ptr none,.ptr none,.ptr none,.ptr none,.ptr none,.ptr f,.ptr g,zi] λh=>
 R ((some ⟨h,0⟩),0):=bt Tryz.func36 (uz 0x80688b1662849892070ed0a20620010c1241001)
instance YB(q:Option Pt)(sock:Int):bs (RI q sock) λR=>
 bO (WB q sock) λa=>
 aq (!a) (
 R ⟨none,0,0⟩)<|
 deref q λc=>
 d_ (0≤sock∧sock<8)<|
 pC ⟨c.b,c.o+9+sock.toNat*1⟩ λd=>
 join [] (λe=>
 bg (TE q sock) λf=>
 aq (f==3) (
 bF<|
 deref q λg=>
 fx g 18 λh=>
 bE (Og d sock) λ(i:(Int×Int))=>
 kY g 18 h<|
 bg (Ov h i) λj=>
 e ())<|
 e ()) λ(k:Unit)=>
 deref q λl=>
 fx l 17 λm=>
 bO (Kx m sock) λn=>
 deref q λp=>
 d_ (0≤sock∧sock<8)<|
 st ⟨p.b,p.o+9+sock.toNat*1⟩ [.ptr none]<|
 bF<|
 deref q λr=>
 deref d λs=>
 gw r 19 λt=>
 iS s 3 λu=>
 deref q λv=>
 so v 19 [.int .i64 (IntKind.i64.wrap (t-((u.len:Nat):Int)))]<|
 deref d λw=>
 iS w 3 λx=>
 bE (WC x) λ(y:Sl)=>
 R y:=bt Tryz.func119 (uz 0x781c68ca8b44a959509a481c3182141144940025983040040040817507a96546a830810459451250009530c1001004001241001)
instance i70(d:Option Pt)(o:Int)(a:Sl):bs (UH d o a) λR=>
 new [zi,zu,zi,zu,.bool false] λc=>
 aq d.isNone (
 st ⟨c,0⟩ [zi,zu,zi,zu,.bool false]<|
 ld aS ⟨c,0⟩ λe=>
 R (e,false))<|
 bS (Rz d o) λf=>
 loop [] () λg (h:Unit)=>
 deref d λi=>
 fx i 17 λj=>
 bE (Kn j) λ(k:Int×Bool×Bool)=>
 aq (!k.2.2) (
 st ⟨c,0⟩ [zi,zu,zi,zu,.bool false]<|
 ld aS ⟨c,0⟩ λl=>
 R (l,false))<|
 deref d λm=>
 d_ (0≤k.1∧k.1<8)<|
 pC ⟨m.b,m.o+9+k.1.toNat*1⟩ λn=>
 deref n λp=>
 de p λq=>
 aq (decide (q≤0)) (
 bF<|
 deref n λr=>
 deref d λs=>
 de r λt=>
 de s λu=>
 deref n λv=>
 st v [.int .i64 (IntKind.i64.wrap (t+u))]<|
 deref d λw=>
 fx w 17 λx=>
 bO (Od x) λy=>
 g ())<|
 join cb (λz=>
 deref n λA=>
 iS A 3 λB=>
 aq ((((B.len:Nat):Int)==0)&&k.2.1) (
 bO (RA d) λC=>
 z C)<|
 z false) λ(D:Bool)=>
 aq D (
 deref d λE=>
 fx E 17 λF=>
 bO (Od F) λG=>
 g ())<|
 deref n λH=>
 iS H 3 λI=>
 aq (((I.len:Nat):Int)==0) (
 deref d λJ=>
 fx J 17 λK=>
 bO (Oe K) λL=>
 deref n λM=>
 so M 2 [.int .u64 o]<|
 g ())<|
 aM (Of n) λN=>
 aq (decide (N>o)) (
 deref d λO=>
 fx O 17 λQ=>
 bO (Oe Q) λS=>
 bF<|
 deref d λT=>
 fx T 18 λU=>
 bE (Og n k.1) λ(V:(Int×Int))=>
 kY T 18 U<|
 bg (RB U V) λX=>
 g ())<|
 join cu (λY=>
 aq (decide (k.1<((a.len:Nat):Int))) (
 idx a k.1 1 λZ=>
 bz Z λa0=>
 Y a0)<|
 Y 18446744073709551615) λ(a1:Int)=>
 bE (RC d n o a1) λ(a2:gG)=>
 st ⟨c,0⟩ (Ks.mk aS a2)<|
 ld aS ⟨c,0⟩ λa3=>
 R (a3,true):=bt Tryz.func70 (uz 0x71c800c044001817507a96546a8308120594b125000975fc3001040047040040040089fc110081c68ca8b44a959509a481c318214100494b025d83041001080048040042006081001001241001)
instance YI(q:Option Pt)(s:gG)(ao:Int):bs (RN q s ao) λR=>
 new (Ks.mk aS s) λa=>
 aq q.isNone (
 R (0,2))<|
 de ⟨a,0⟩ λc=>
 bO (yg c 0 7) λd=>
 aq (!d) (
 R (0,8))<|
 de ⟨a,2⟩ λe=>
 bO (yg e 1 65536) λf=>
 aq (!f) (
 R (0,1))<|
 bS (Si q ao) λg=>
 bg (Sj q (some ⟨a,0⟩) ao) λh=>
 aq (h==0) (
 de ⟨a,0⟩ λi=>
 bS (So q i ao) λj=>
 bF<|
 de ⟨a,0⟩ λk=>
 deref q λl=>
 d_ (0≤k∧k<8)<|
 pC ⟨l.b,l.o+9+k.toNat*1⟩ λm=>
 bF<|
 ld aS ⟨a,0⟩ λn=>
 deref m λp=>
 iS p 3 λr=>
 new [.int .i64 n.1,.int .u64 n.2.1,.int .i64 n.2.2.1,.int .u64 n.2.2.2.1,.bool n.2.2.2.2] λt=>
 ry p 3 r<|
 mw 5 r ⟨some ⟨t,0⟩,1,1⟩ λu=>
 deref m λv=>
 so v 3 [.sl u]<|
 deref q λw=>
 gw w 19 λx=>
 deref q λy=>
 so y 19 [.int .i64 (IntKind.i64.wrap (x+1))]<|
 R (h,0))<|
 R (h,0):=bt Tryz.func126 (uz 0x1c00206982aa2512255d51ea5869840c210594906524096a0c18171e61954c5a444439421019400258c3040041001040040055081001)
instance i56(q:Option Pt)(sock:Int):bs (XB q sock) λR=>
 new [zi,zi,zi,zu,zu,.sl ⟨none,0,0⟩] λa=>
 bO (WB q sock) λc=>
 aq (!c) (
 st ⟨a,0⟩ [zi,zi,zi,zu,zu,.sl ⟨none,0,0⟩]<|
 ld dx ⟨a,0⟩ λd=>
 R (d,false))<|
 deref q λe=>
 d_ (0≤sock∧sock<8)<|
 pC ⟨e.b,e.o+9+sock.toNat*1⟩ λf=>
 bF<|
 deref f λg=>
 deref f λh=>
 deref f λi=>
 deref f λj=>
 de g λk=>
 cZ h 1 λl=>
 cZ i 2 λm=>
 iS j 3 λn=>
 bg (TE q sock) λp=>
 ry j 3 n<|
 jy i 2 m<|
 jy h 1 l<|
 co g (Ks.mk ci k)<|
 bE (WC n) λ(r:Sl)=>
 jy i 2 m<|
 jy h 1 l<|
 co g (Ks.mk ci k)<|
 st ⟨a,0⟩ [.int .i64 sock,.int .i64 k,.int .i64 p,.int .u64 l,.int .u64 m,.sl r]<|
 ld dx ⟨a,0⟩ λs=>
 R (s,true):=bt Tryz.func56 (uz 0x8178a6116aa581c615455e645265d61ea4cf2c448e28344d2421909463251889411a50059460650409510c1001241001)
instance i44(q:Option Pt):bs (Xw q) λR=>
 aq q.isNone (
 R 0)<|
 deref q λa=>
 gw a 19 λb=>
 R b:=bt Tryz.func44 (uz 0xa)
instance i74(q:Option Pt)(c:cP):bs (XN q c) λR=>
 new (Ks.mk aW c) λa=>
 aq q.isNone (
 R 2)<|
 ld aW ⟨a,0⟩ λb=>
 bO (Wy b) λd=>
 aq (!d) (
 R 13)<|
 ld aW ⟨a,0⟩ λe=>
 deref q λf=>
 st f (Ks.mk aW e)<|
 R 0:=bt Tryz.func74 (uz 0x20d081001)
instance i73(q:Option Pt):bs (UI q) λR=>
 aq q.isNone (
 R (0,false))<|
 deref q λa=>
 fx a 18 λb=>
 bE (RD b) λ(c:(Int×Int)×Bool)=>
 new [zu,zu] λd=>
 st ⟨d,0⟩ (Ks.mk cr c.1)<|
 bz ⟨d,0⟩ λe=>
 R (e,c.2):=bt Tryz.func73 (uz 0x16)
instance ZG(q:Option Pt)(ao:Int):bs (Si q ao) λR=>
 loop ci 0 λa (c:Int)=>
 aq (decide (c<8)) (
 bO (OM q c 3000000000 ao) λd=>
 aq d (
 deref q λe=>
 d_ (0≤c∧c<8)<|
 st ⟨e.b,e.o+9+c.toNat*1⟩ [.ptr none]<|
 a (IntKind.i64.wrap (c+1)))<|
 a (IntKind.i64.wrap (c+1)))<|
 R ():=bt Tryz.func187 (uz 0x2c2047040041141182001)
instance Yn(q:Option Pt)(ao:Int):NU (Rz q ao) λn0 R=>
 new [.int .u64 ao] λa=>
 new [.sl ⟨none,0,0⟩] λb=>
 join [] (λc=>
 deref q λd=>
 fx d 18 λe=>
 bE (Ot e) λ(f:Fv)=>
 qc Tryz.prog f [.agg [.int .u64,.int .u64]] (λ(g:(Int×Int)) h i j=>
 new [zu,zu] λk=>
 st ⟨k,0⟩ (Ks.mk cr g)<|
 h<|
 bz ⟨k,0⟩ λl=>
 bz ⟨a,0⟩ λm=>
 aq (decide (l>m)) (
 j 2)<|
 ec ⟨b,0⟩ λn=>
 ld cr ⟨k,0⟩ λ(o:Int×Int)=>
 new [.int .u64 o.1,.int .u64 o.2] λp=>
 mw 2 n ⟨some ⟨p,0⟩,1,1⟩ λr=>
 st ⟨b,0⟩ [.sl r]<|
 i) λs=>oO 0 s (c ())<|
 oO 2 s (c ())<|
 gx) λ(t:Unit)=>
 ec ⟨b,0⟩ λu=>
 loop ci 0 λv (w:Int)=>
 aq (decide (w<((u.len:Nat):Int))) (
 idx u w 2 λx=>
 ld cr x λ(y:Int×Int)=>
 new [zu,zu] λz=>
 st ⟨z,0⟩ (Ks.mk cr y)<|
 bF<|
 ld cr ⟨z,0⟩ λ(A:Int×Int)=>
 deref q λB=>
 fx B 18 λC=>
 bg (Ov C A) λD=>
 bF<|
 deref q λE=>
 bz ⟨z,1⟩ λF=>
 fx E 17 λG=>
 bg (Kv G (IntKind.i64.wrap F) false) λH=>
 v (IntKind.i64.wrap (w+1)))<|
 lB n0<|R ():=TI Tryz.func105 (.s .o (.s .o (.j [] (.s .o (.b (.r [.agg [.int .u64,.int .u64]] .o (.b (.s (.s .o (.s .o .o)) .o))))) (.s .o (.b (.l [(24,qi)] (.s .o (.s (.s .o .o) (.s (.b (.s .o (.s (.d (.f 0 [0] (.f 4 [7] (.f 1 [28] (.f 2 [29] (.f 3 [30] (.w 5 [31,32] .aG))))))) (.d (.f 0 [0] (.f 4 [7] (.f 1 [34] (.f 5 [38] (.f 2 [35] (.f 6 [39] (.f 3 [36] (.w 7 [37,40] .aG)))))))))))) .o)))))))))
instance ZH(d o:Option Pt)(a:Int):bs (Sj d o a) λR=>
 bF<|
 deref o λc=>
 deref d λe=>
 de c λf=>
 d_ (0≤f∧f<8)<|
 pC ⟨e.b,e.o+9+f.toNat*1⟩ λg=>
 deref d λh=>
 cZ h 4 λi=>
 aM (n_ a i) λj=>
 join [] (λk=>
 bF<|
 deref d λl=>
 deref d λm=>
 gw l 19 λn=>
 gw m 2 λp=>
 aq (decide (n≥p)) (
 R 2)<|
 join cb (λq=>
 bF<|
 aq (!g.isNone) (
 deref g λr=>
 deref d λs=>
 iS r 3 λt=>
 gw s 3 λu=>
 q (decide (((t.len:Nat):Int)≥u)))<|
 q false) λ(v:Bool)=>
 aq v (
 R 3)<|
 deref o λw=>
 cZ w 3 λx=>
 aq (decide (x>j)) (
 deref d λy=>
 ob y 6 λz=>
 aq z (
 R 4)<|
 k ())<|
 k ()) λ(A:Unit)=>
 deref o λB=>
 cZ B 3 λC=>
 deref o λD=>
 so D 3 [.int .u64 (if j<C then j else C)]<|
 R 0:=bt Tryz.func188 (uz 0x21381f3e67933a97584cdb5c4cca574c7a5b4cba564c6a5a4caa554c5a594c9a544c4a53008a531c3a420470259030a40441c181a2a66542692070c60850401250009590c10801000606499883cd1e91060c91650810650009480c1001)
instance i85(q:Option Pt)(sock:Int):bs (WB q sock) λR=>
 aq (!q.isNone) (
 bO (yg sock 0 7) λa=>
 aq a (
 deref q λc=>
 d_ (0≤sock∧sock<8)<|
 pC ⟨c.b,c.o+9+sock.toNat*1⟩ λd=>
 R (!d.isNone))<|
 R false)<|
 R false:=bt Tryz.func85 (uz 8)
instance aay(q:Option Pt)(sock qI ao:Int):bs (OM q sock qI ao) λR=>
 deref q λa=>
 d_ (0≤sock∧sock<8)<|
 pC ⟨a.b,a.o+9+sock.toNat*1⟩ λc=>
 aq (!c.isNone) (
 bg (TE q sock) λd=>
 aq (d==0) (
 deref c λe=>
 cZ e 2 λf=>
 aM (n_ f qI) λg=>
 R (decide (g≤ao)))<|
 R false)<|
 R false:=bt Tryz.func243 (uz 0xb)
instance Yq(q:Option Pt):NU (RA q) λn0 R=>
 new [.bool false] λa=>
 deref q λb=>
 fx b 17 λc=>
 bE (Kw c) λ(d:Fv)=>
 qc Tryz.prog d [qi,qb] (λ(e:Int×Bool) f g h=>
 f<|
 aq (!e.2) (
 st ⟨a,0⟩ [.bool true]<|
 h 1)<|
 g) λi=>oO 0 i (st ⟨a,0⟩ [.bool false]<|
 qt ⟨a,0⟩ λj=>
 lB n0<|R j)<|
 oO 1 i (qt ⟨a,0⟩ λk=>
 lB n0<|R k)<|
 gx:=TI Tryz.func108 (.s .o (.s (.s .o (.b (.r [qi,qb] .o (.b (.s .o (.s (.s .o .o) .o)))))) (.s .o .o)))
instance i86(q:Option Pt)(sock:Int):bs (TE q sock) λR=>
 deref q λa=>
 fx a 17 λc=>
 bg (Kq c sock) λd=>
 aq (d !=0) (
 R d)<|
 deref q λe=>
 d_ (0≤sock∧sock<8)<|
 pC ⟨e.b,e.o+9+sock.toNat*1⟩ λf=>
 aq (!f.isNone) (
 deref f λg=>
 iS g 3 λh=>
 aq (decide (((h.len:Nat):Int)>0)) (
 R 3)<|
 R 0)<|
 R 0:=bt Tryz.func86 (uz 0x31)
instance Yv(q f:Option Pt)(ao aQ:Int):bs (RC q f ao aQ) λR=>
 new [zi,zu,zi,zu,.bool false] λa=>
 deref f λb=>
 iS b 3 λc=>
 idx c 0 5 λd=>
 ld aS d λe=>
 new [zi,zu,zi,zu,.bool false] λg=>
 st ⟨g,0⟩ (Ks.mk aS e)<|
 deref f λh=>
 iS h 3 λi=>
 EF i (some 1) none none 5 λj=>
 deref f λk=>
 so k 3 [.sl j]<|
 deref q λl=>
 gw l 19 λm=>
 deref q λn=>
 so n 19 [.int .i64 (IntKind.i64.wrap (m-1))]<|
 bF<|
 deref f λo=>
 de ⟨g,2⟩ λp=>
 de o λr=>
 deref f λs=>
 st s [.int .i64 (IntKind.i64.wrap (r-p))]<|
 bF<|
 de ⟨g,2⟩ λt=>
 deref q λu=>
 cZ u 5 λv=>
 aM (R4 aQ v) λw=>
 co ⟨g,2⟩ (Ks.mk ci t)<|
 aM (Al t w) λx=>
 aM (n_ ao x) λy=>
 deref f λz=>
 so z 1 [.int .u64 y]<|
 ld aS ⟨g,0⟩ λA=>
 st ⟨a,0⟩ (Ks.mk aS A)<|
 ld aS ⟨a,0⟩ λB=>
 R B:=bt Tryz.func113 (uz 0x781f74fa8e44d95c48ca9b50ba9a54aa892071830059431252429420650409670c18195c9a88447956506a4308504912504095e0c1001001001001)
instance ZI(d:Option Pt)(o a:Int):bs (So d o a) λR=>
 deref d λc=>
 d_ (0≤o∧o<8)<|
 pC ⟨c.b,c.o+9+o.toNat*1⟩ λe=>
 join [] (λf=>
 aq e.isNone (
 bF<|
 deref d λg=>
 deref d λh=>
 gw g 1 λi=>
 new [.int .i64 i,zu,zu,.sl ⟨none,0,0⟩] λj=>
 d_ (0≤o∧o<8)<|
 st ⟨h.b,h.o+9+o.toNat*1⟩ [.ptr (some ⟨j,0⟩)]<|
 f ())<|
 bg (TE d o) λk=>
 aq (k !=0) (
 R ())<|
 bO (OM d o 40000000 a) λl=>
 aq l (
 bF<|
 deref e λm=>
 deref d λn=>
 de m λp=>
 de n λq=>
 deref e λr=>
 st r [.int .i64 (if q>p then q else p)]<|
 f ())<|
 f ()) λ(s:Unit)=>
 deref d λt=>
 d_ (0≤o∧o<8)<|
 pC ⟨t.b,t.o+9+o.toNat*1⟩ λu=>
 deref u λv=>
 so v 2 [zu]<|
 deref d λw=>
 fx w 17 λx=>
 bg (Kv x o true) λy=>
 R ():=bt Tryz.func189 (uz 0x1c081d6cda8c44b95a54aa492041c31820059460651809650c100100100181c64ca9b48ba582261c614a1112650c00a50419400253c3040042004001)
instance Ys(f:Option Pt):bs (Of f) λR=>
 bF<|
 deref f λa=>
 deref f λb=>
 cZ a 1 λc=>
 iS b 3 λd=>
 idx d 0 5 λe=>
 cZ e 3 λg=>
 R (if g>c then g else c):=bt Tryz.func110 (uz 0x80e3263462e92892070c60850401250009420c1001)
instance Yu(f:Option Pt)(sock:Int):bs (Og f sock) λR=>
 new [zu,zu] λa=>
 aM (Of f) λb=>
 st ⟨a,0⟩ [.int .u64 b,.int .u64 (IntKind.u64.wrap sock)]<|
 ld cr ⟨a,0⟩ λ(c:Int×Int)=>
 R c:=bt Tryz.func112 (uz 8)
instance Yl(v lo hi:Int):bs (yg v lo hi) λR=>
 R ((decide (v≥lo))&&(decide (v≤hi))):=bt Tryz.func103 (uz 8)
instance i46(l:Option Pt)(sock:Int):bs (Xy l sock) λR=>
 new [zi,zi,zi,zi,zi,zi,zi,zi] λa=>
 bg (WA l sock) λc=>
 aq (c !=0) (
 st ⟨a,0⟩ [zi,zi,zi,zi,zi,zi,zi,zi]<|
 ld nz ⟨a,0⟩ λd=>
 R (d,c))<|
 deref l λe=>
 d_ (0≤sock∧sock<8)<|
 ld nz ⟨e.b,e.o+sock.toNat*8⟩ λf=>
 new [zi,zi,zi,zi,zi,zi,zi,zi] λg=>
 st ⟨g,0⟩ (Ks.mk nz f)<|
 st ⟨g,0⟩ [.int .i64 sock]<|
 ld nz ⟨g,0⟩ λh=>
 st ⟨a,0⟩ (Ks.mk nz h)<|
 ld nz ⟨a,0⟩ λi=>
 R (i,0):=bt Tryz.func46 (uz 0x32)
instance i72(l:Option Pt)(sock fate:Int):bs (QD l sock fate) λR=>
 bg (WA l sock) λa=>
 aq (a !=0) (
 R a)<|
 deref l λc=>
 d_ (0≤sock∧sock<8)<|
 join [] (λd=>
 aq ((decide (fate<0))||(decide (fate≥6))) (
 R 1)<|
 aq (fate==0) (
 deref (some ⟨c.b,c.o+sock.toNat*8⟩) λe=>
 gw e 7 λf=>
 deref (some ⟨c.b,c.o+sock.toNat*8⟩) λg=>
 so g 7 [.int .i64 (IntKind.i64.wrap (f+1))]<|
 d ())<|
 deref (some ⟨c.b,c.o+sock.toNat*8⟩) λh=>
 gw h 7 λi=>
 aq (i==0) (
 R 7)<|
 deref (some ⟨c.b,c.o+sock.toNat*8⟩) λj=>
 gw j 7 λk=>
 deref (some ⟨c.b,c.o+sock.toNat*8⟩) λm=>
 so m 7 [.int .i64 (IntKind.i64.wrap (k-1))]<|
 d ()) λ(n:Unit)=>
 bF<|
 deref (some ⟨c.b,c.o+sock.toNat*8⟩) λp=>
 deref (some ⟨c.b,c.o+sock.toNat*8⟩) λq=>
 d_ (0≤fate∧fate<6)<|
 de ⟨p.b,p.o+1+fate.toNat*1⟩ λr=>
 d_ (0≤fate∧fate<6)<|
 st ⟨q.b,q.o+1+fate.toNat*1⟩ [.int .i64 (IntKind.i64.wrap (r+1))]<|
 R 0:=bt Tryz.func72 (uz 0x781a5caa99489a46154484a480d11e54429420652009710c1cc20040013c1001)
instance i80(l:Option Pt)(sock:Int):bs (WA l sock) λR=>
 aq l.isNone (
 R 2)<|
 aq ((decide (sock<0))||(decide (sock≥8))) (
 R 8)<|
 R 0:=bt Tryz.func80 (uz 0x1cd081001)
instance i38:bs Xr λR=>
 new [zi,zi,zi,zi,zi,zi,zi,zi,zi,zi,zi,zi,zi,zi,zi,zi,zi,zi,zi,zi,zi,zi,zi,zi,zi,zi,zi,zi,zi,zi,zi,zi,zi,zi,zi,zi,zi,zi,zi,zi,zi,zi,zi,zi,zi,zi,zi,zi,zi,zi,zi,zi,zi,zi,zi,zi,zi,zi,zi,zi,zi,zi,zi,zi] λa=>
 R (some ⟨a,0⟩):=bt Tryz.func38 (uz 8)
instance Zf(l:Option Pt):bs (Kw l) λR=>
 new [.ptr l] λa=>
 R (.mk (.func jt) [] [V1.enc (.lf (.ptr (some ⟨a,0⟩)))]):=bt Tryz.func160 (uz 8)
instance aad(yield:Fv)(c0:Pt):bs (Vn yield c0) λR=>
 pC c0 λa=>
 aq a.isNone (
 R ())<|
 pC c0 λb=>
 deref b λc=>
 ec c λd=>
 bF<|
 pC c0 λe=>
 pC c0 λf=>
 deref e λg=>
 deref f λh=>
 ec g λi=>
 iS h 1 λj=>
 new [.sl i,.sl j] λk=>
 bE (SM ⟨some ⟨k,0⟩,2,2⟩) λ(l:Sl)=>
 loop ci 0 λm (n:Int)=>
 aq (decide (n<((l.len:Nat):Int))) (
 idx l n 1 λo=>
 de o λp=>
 tg Tryz.prog yield [vi p,.lf (.bool (decide (n<((d.len:Nat):Int))))] [qb] λ(q:Bool)=>
 aq (!q) (
 R ())<|
 m (IntKind.i64.wrap (n+1)))<|
 R ():=bt Tryz.func221 (uz 0x2c204704004160118280a649998508a870c608504b84112504094c0c1001201)
instance Yp(l:Option Pt):bs (Od l) λR=>
 bE (Kn l) λ(a:Int×Bool×Bool)=>
 aq a.2.2 (
 bO (Kx l a.1) λb=>
 aq b (
 bg (Kv l a.1 false) λc=>
 R (c==0))<|
 R false)<|
 R false:=bt Tryz.func107 (uz 0xb)
instance Yr(l:Option Pt):bs (Oe l) λR=>
 bE (Kn l) λ(a:Int×Bool×Bool)=>
 aq a.2.2 (
 bO (Kx l a.1) λb=>
 R b)<|
 R false:=bt Tryz.func109 (uz 0xb)
instance Yo(l:Option Pt):NU (Kn l) λn0 R=>
 new [zi] λa=>
 new [.bool false] λb=>
 new [.bool false] λc=>
 join [] (λd=>
 bE (Kw l) λ(e:Fv)=>
 qc Tryz.prog e [qi,qb] (λ(f:Int×Bool) g h i=>
 g<|
 st ⟨a,0⟩ [.int .i64 f.1]<|
 st ⟨b,0⟩ [.bool f.2]<|
 st ⟨c,0⟩ [.bool true]<|
 i 1) λj=>oO 0 j (d ())<|
 oO 1 j (de ⟨a,0⟩ λk=>
 qt ⟨b,0⟩ λm=>
 qt ⟨c,0⟩ λn=>
 lB n0<|R (k,m,n))<|
 gx) λ(o:Unit)=>
 st ⟨a,0⟩ [zi]<|
 st ⟨b,0⟩ [.bool false]<|
 st ⟨c,0⟩ [.bool false]<|
 de ⟨a,0⟩ λp=>
 qt ⟨b,0⟩ λq=>
 qt ⟨c,0⟩ λr=>
 lB n0<|R (p,q,r):=TI Tryz.func106 (.s .o (.j [] (.s .o (.b (.r [qi,qb] (.s .o .o) (.b (.s .o .o))))) (.s .o .o)))
instance YS(l:Option Pt)(sock:Int):NU (Kq l sock) λn0 R=>
 new [.int .i64 sock] λa=>
 new [zi] λb=>
 bE (Kw l) λ(c:Fv)=>
 qc Tryz.prog c [qi,qb] (λ(d:Int×Bool) e f g=>
 e<|
 de ⟨a,0⟩ λh=>
 aq (d.1 !=h) (
 f)<|
 aq d.2 (
 st ⟨b,0⟩ [.int .i64 1]<|
 g 1)<|
 st ⟨b,0⟩ [.int .i64 2]<|
 g 1) λi=>oO 0 i (st ⟨b,0⟩ [zi]<|
 de ⟨b,0⟩ λj=>
 lB n0<|R j)<|
 oO 1 i (de ⟨b,0⟩ λk=>
 lB n0<|R k)<|
 gx:=TI Tryz.func136 (.s .o (.s (.s .o (.b (.r [qi,qb] (.s .o .o) (.b (.s (.s .o (.s .o .o)) (.s (.s .o (.s (.s .o .o) .o)) (.s .o .o))))))) (.s .o .o)))
instance Ze(l:Option Pt)(sock:Int)(fresh:Bool):bs (Kv l sock fresh) λR=>
 aq l.isNone (
 R 2)<|
 aq ((decide (sock<0))||(decide (sock≥8))) (
 R 8)<|
 bg (Kq l sock) λa=>
 aq (a !=0) (
 R 6)<|
 aq fresh (
 deref l λb=>
 ec b λc=>
 new [.int .i64 sock] λd=>
 mw 1 c ⟨some ⟨d,0⟩,1,1⟩ λe=>
 deref l λf=>
 st f [.sl e]<|
 R 0)<|
 deref l λg=>
 iS g 1 λh=>
 new [.int .i64 sock] λi=>
 mw 1 h ⟨some ⟨i,0⟩,1,1⟩ λj=>
 deref l λk=>
 so k 1 [.sl j]<|
 R 0:=bt Tryz.func159 (uz 0x1f5081001)
instance Zg(l:Option Pt)(sock:Int):bs (Kx l sock) λR=>
 new [.int .i64 sock] λa=>
 de ⟨a,0⟩ λb=>
 bg (Kq l b) λc=>
 aq (c==0) (
 R false)<|
 bF<|
 deref l λd=>
 deref l λe=>
 ec d λf=>
 iS e 1 λg=>
 bE (OH f (.mk (.func fH) [] [V1.enc (.lf (.ptr (some ⟨a,0⟩)))])) λ(h:Sl)=>
 ry e 1 g<|
 bE (OH g (.mk (.func fH) [] [V1.enc (.lf (.ptr (some ⟨a,0⟩)))])) λ(i:Sl)=>
 deref l λj=>
 st j [.sl h]<|
 deref l λk=>
 so k 1 [.sl i]<|
 R true:=bt Tryz.func161 (uz 0x7822793aa14a5311960610a8f2ce95d70da97587a8b14a1090c53250089451a500294006500094a0c1001241001)
instance aaf(s:Int)(c0:Pt):bs (Vo s c0) λR=>
 de c0 λa=>
 R (s==a):=bt Tryz.func223 (uz 8)
instance i67:bs XK λR=>
 new [.sl ⟨none,0,0⟩,.sl ⟨none,0,0⟩] λa=>
 R (some ⟨a,0⟩):=bt Tryz.func67 (uz 8)
instance abm(x y:Int):bs (OW x y) λR=>
 d_ (0≤(32:Int))<|
 d_ (0≤(32:Int))<|
 d_ (0≤(32:Int))<|
 d_ (0≤(32:Int))<|
 d_ (0≤(32:Int))<|
 R ((IntKind.u64.wrap ((IntKind.u64.wrap ((IntKind.u64.wrap ((x.fdiv (2^min (32:Int).toNat IntKind.u64.bits))*(y.fdiv (2^min (32:Int).toNat IntKind.u64.bits))))+((IntKind.u64.wrap ((IntKind.u64.wrap ((x.fdiv (2^min (32:Int).toNat IntKind.u64.bits))*(IntKind.u64.wrap (BitVec.ofInt IntKind.u64.bits y&&&BitVec.ofInt IntKind.u64.bits 4294967295).toNat)))+((IntKind.u64.wrap ((IntKind.u64.wrap (BitVec.ofInt IntKind.u64.bits x&&&BitVec.ofInt IntKind.u64.bits 4294967295).toNat)*(IntKind.u64.wrap (BitVec.ofInt IntKind.u64.bits y&&&BitVec.ofInt IntKind.u64.bits 4294967295).toNat))).fdiv (2^min (32:Int).toNat IntKind.u64.bits)))).fdiv (2^min (32:Int).toNat IntKind.u64.bits))))+((IntKind.u64.wrap ((IntKind.u64.wrap (BitVec.ofInt IntKind.u64.bits (IntKind.u64.wrap ((IntKind.u64.wrap ((x.fdiv (2^min (32:Int).toNat IntKind.u64.bits))*(IntKind.u64.wrap (BitVec.ofInt IntKind.u64.bits y&&&BitVec.ofInt IntKind.u64.bits 4294967295).toNat)))+((IntKind.u64.wrap ((IntKind.u64.wrap (BitVec.ofInt IntKind.u64.bits x&&&BitVec.ofInt IntKind.u64.bits 4294967295).toNat)*(IntKind.u64.wrap (BitVec.ofInt IntKind.u64.bits y&&&BitVec.ofInt IntKind.u64.bits 4294967295).toNat))).fdiv (2^min (32:Int).toNat IntKind.u64.bits))))&&&BitVec.ofInt IntKind.u64.bits 4294967295).toNat)+(IntKind.u64.wrap ((IntKind.u64.wrap (BitVec.ofInt IntKind.u64.bits x&&&BitVec.ofInt IntKind.u64.bits 4294967295).toNat)*(y.fdiv (2^min (32:Int).toNat IntKind.u64.bits)))))).fdiv (2^min (32:Int).toNat IntKind.u64.bits)))),(IntKind.u64.wrap (x*y))):=bt Tryz.func294 (uz 0x36)
instance Zq:bs R7 λR=>
 new [zu,zi,.bool false] λa=>
 R (some ⟨a,0⟩):=bt Tryz.func171 (uz 8)
instance YQ(p:Option Pt):bs (Dq p) λR=>
 aq (!p.isNone) (
 deref p λa=>
 ob a 2 λb=>
 R b)<|
 R false:=bt Tryz.func134 (uz 8)
instance abb(p:Option Pt)(start limited:Bool)(bw:Int):bs (Tk p start limited bw) λR=>
 join [] (λa=>
 loop [] () λb (c:Unit)=>
 join [] (λd=>
 aq (!p.isNone) (
 deref p λe=>
 ob e 2 λf=>
 aq (((!f)&&start)&&(!limited)) (
 d ())<|
 a ())<|
 a ()) λ(g:Unit)=>
 deref p λh=>
 bz h λi=>
 aM (Du i 320 256) λj=>
 aq (decide (bw≥j)) (
 deref p λk=>
 st k [.int .u64 bw]<|
 deref p λl=>
 so l 1 [zi]<|
 a ())<|
 deref p λm=>
 gw m 1 λn=>
 deref p λo=>
 so o 1 [.int .i64 (IntKind.i64.wrap (n+1))]<|
 deref p λq=>
 gw q 1 λr=>
 deref p λs=>
 so s 2 [.bool (r==3)]<|
 a ()) λ(t:Unit)=>
 bO (Dq p) λu=>
 R u:=bt Tryz.func283 (uz 0x7682200100182004001001)
instance Zt:bs R_ λR=>
 new [.bool false,.bool false,zu,zi,zu,zu,zu,zu] λa=>
 R (some ⟨a,0⟩):=bt Tryz.func174 (uz 8)
instance aa8(d:Option Pt)(o:Bool)(a:eI):bs (Th d o a) λR=>
 new (Ks.mk aO a) λb=>
 loop [] () λc (e:Unit)=>
 aq (!d.isNone) (
 bF<|
 deref d λf=>
 bz ⟨b,6⟩ λg=>
 cZ f 4 λh=>
 aM (n_ h g) λi=>
 deref d λj=>
 so j 4 [.int .u64 i]<|
 join cb (λk=>
 deref d λl=>
 qt l λm=>
 aq (!m) (
 deref d λn=>
 ob n 1 λp=>
 k (!p))<|
 k false) λ(q:Bool)=>
 aq q (
 bz ⟨b,6⟩ λr=>
 aq (decide (r>0)) (
 ld aO ⟨b,0⟩ λs=>
 bS (OX d s) λt=>
 R ())<|
 R ())<|
 join [] (λu=>
 deref d λv=>
 qt v λw=>
 aq (!w) (
 qt ⟨b,8⟩ λx=>
 aq x (
 bS (KW d) λy=>
 R ())<|
 u ())<|
 u ()) λ(z:Unit)=>
 join [] (λA=>
 aq o (
 deref d λB=>
 gw B 3 λC=>
 deref d λD=>
 so D 3 [.int .i64 (IntKind.i64.wrap (C+1))]<|
 A ())<|
 A ()) λ(E:Unit)=>
 deref d λF=>
 qt F λG=>
 aq G (
 join cb (λH=>
 aq o (
 deref d λI=>
 gw I 3 λJ=>
 H (J==48))<|
 H false) λ(K:Bool)=>
 aq K (
 bS (KW d) λL=>
 deref d λM=>
 so M 3 [zi]<|
 R ())<|
 R ())<|
 deref d λN=>
 gw N 3 λO=>
 aq (decide (O>16)) (
 bS (KW d) λQ=>
 R ())<|
 join cb (λS=>
 deref d λT=>
 gw T 3 λU=>
 aq (decide (U≥4)) (
 bz ⟨b,6⟩ λV=>
 S (decide (V>0)))<|
 S false) λ(X:Bool)=>
 aq X (
 ld aO ⟨b,0⟩ λY=>
 bS (Tu d Y) λZ=>
 R ())<|
 R ())<|
 R ():=bt Tryz.func279 (uz 0x70024bf044001001300084fc1101001081200109004dc009d04406068f2aa24822538c1ea1031821459400650009470c1088040182001001)
instance ZK(p:Option Pt):bs (OC p) λR=>
 join [] (λa=>
 aq p.isNone (
 R (0,false))<|
 deref p λb=>
 qt b λc=>
 aq (!c) (
 R (0,false))<|
 a ()) λ(d:Unit)=>
 deref p λe=>
 cZ e 2 λf=>
 R (f,true):=bt Tryz.func191 (uz 0x1c9004001)
instance abo(p:Option Pt)(s:eI):bs (OX p s) λR=>
 new (Ks.mk aO s) λa=>
 bF<|
 bz ⟨a,0⟩ λb=>
 bz ⟨a,1⟩ λc=>
 deref p λd=>
 cZ d 4 λe=>
 deref p λf=>
 so f 1 [.bool true]<|
 co ⟨a,1⟩ (Ks.mk cu c)<|
 co ⟨a,0⟩ (Ks.mk cu b)<|
 deref p λg=>
 so g 3 [zi]<|
 co ⟨a,1⟩ (Ks.mk cu c)<|
 co ⟨a,0⟩ (Ks.mk cu b)<|
 deref p λh=>
 so h 5 [.int .u64 b,.int .u64 c,.int .u64 e]<|
 R ():=bt Tryz.func296 (uz 0x2088f52a8539464a581199f42514f95e3a634432538a20bb4a2481840079431650c39400a50019400250c3001)
instance abq(d:Option Pt)(o:eI):bs (Tu d o) λR=>
 new (Ks.mk aO o) λa=>
 ld aO ⟨a,0⟩ λb=>
 bE (TA d b) λ(c:Int×Bool)=>
 aq (!c.2) (
 R ())<|
 join cb (λe=>
 bF<|
 deref d λf=>
 cZ f 2 λg=>
 aq (decide (g>0)) (
 deref d λh=>
 deref d λi=>
 cZ h 2 λj=>
 cZ i 2 λk=>
 aM (TB j c.1) λl=>
 jy i 2 k<|
 e (decide (l≤(IntKind.u64.wrap (k.tdiv 8)))))<|
 e false) λ(m:Bool)=>
 aq m (
 bF<|
 deref d λn=>
 deref d λp=>
 cZ n 2 λq=>
 cZ p 2 λr=>
 deref d λs=>
 so s 2 [.int .u64 (IntKind.u64.wrap ((IntKind.u64.wrap ((IntKind.u64.wrap (q.tdiv 2))+(IntKind.u64.wrap (c.1.tdiv 2))))+(IntKind.u64.wrap (BitVec.ofInt IntKind.u64.bits (IntKind.u64.wrap (BitVec.ofInt IntKind.u64.bits r&&&BitVec.ofInt IntKind.u64.bits c.1).toNat)&&&BitVec.ofInt IntKind.u64.bits 1).toNat)))]<|
 deref d λt=>
 st t [.bool true]<|
 deref d λu=>
 so u 3 [zi]<|
 R ())<|
 deref d λv=>
 so v 2 [.int .u64 c.1]<|
 ld aO ⟨a,0⟩ λw=>
 bS (OX d w) λx=>
 R ():=bt Tryz.func298 (uz 0x1c0823853a92451960650a4f61622979d3a914c10b0ca1c210d9402651069400650009690c10608d39a2592a6171646d6da58bba0590a5f58fa59589a5e58ea58588a5d58da57587a5600ca5610aa56006a451030810009560c2581100040042001001)
instance abp(p:Option Pt):bs (KW p) λR=>
 deref p λa=>
 st a [.bool false]<|
 deref p λb=>
 so b 1 [.bool false]<|
 deref p λc=>
 so c 2 [zu]<|
 R ():=bt Tryz.func297 .o
instance abC(p:Option Pt)(s:eI):bs (TA p s) λR=>
 new (Ks.mk aO s) λa=>
 bF<|
 bz ⟨a,1⟩ λb=>
 deref p λc=>
 deref p λd=>
 deref p λe=>
 bz ⟨a,0⟩ λf=>
 deref p λg=>
 cZ d 4 λh=>
 cZ c 6 λi=>
 cZ e 7 λj=>
 cZ g 5 λk=>
 aM (yh b i) λl=>
 jy g 5 k<|
 jy e 7 j<|
 jy d 4 h<|
 co ⟨a,0⟩ (Ks.mk cu f)<|
 aM (yh h j) λm=>
 jy g 5 k<|
 co ⟨a,0⟩ (Ks.mk cu f)<|
 aM (yh f k) λn=>
 aq ((l==0)||(n==0)) (
 R (0,false))<|
 aM (Du l 50 256) λo=>
 aq (decide (m<o)) (
 R (0,false))<|
 aM (Du l 1000000000 n) λq=>
 R (q,true):=bt Tryz.func309 (uz 0x1d82a72689b9986a6a6466a85c46a3ca1ea6101973cb15638a1154cd2430405250d29403250089400a50c09480c1001)
instance abD(a b:Int):bs (TB a b) λR=>
 R (IntKind.u64.wrap ((if b>a then b else a)-(if b<a then b else a))):=bt Tryz.func310 (uz 8)
instance Zs:bs R9 λR=>
 new [zu,zu,.bool false,zu,.bool false] λa=>
 R (some ⟨a,0⟩):=bt Tryz.func173 (uz 8)
instance YM(p:Option Pt):bs (Fk p) λR=>
 aq p.isNone (
 R 0)<|
 deref p λa=>
 bz a λb=>
 R b:=bt Tryz.func130 (uz 0xa)
end Go.X
