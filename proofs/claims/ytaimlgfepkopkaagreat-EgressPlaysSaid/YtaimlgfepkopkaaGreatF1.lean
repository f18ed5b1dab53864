/- What each function computes, as a weakest precondition; the kernel sees that the code says so. -/
import Derived.Test.YtaimlgfepkopkaaGreatG
set_option linter.all false
namespace Go.X
open Go.Proofs
instance YY(d:Option Pt)(o:eI)(a:Int):bs (On d o a) λR=>
 new (Ks.mk aO o) λc=>
 new [zi,zi,zu,zu,zu,zu,zu,zu,.bool false,.bool false] λe=>
 bF<|
 ld aO ⟨c,0⟩ λf=>
 deref d λg=>
 bO (Sv (some ⟨g.b,g.o+2⟩) f) λh=>
 bF<|
 ld aO ⟨c,0⟩ λi=>
 deref d λj=>
 bS (Sw (some ⟨j.b,j.o+15⟩) h i) λk=>
 join [] (λl=>
 join cb (λm=>
 bz ⟨c,5⟩ λn=>
 aq (decide (n>0)) (
 bz ⟨c,3⟩ λp=>
 m (decide (p>0)))<|
 m false) λ(q:Bool)=>
 aq q (
 bF<|
 bz ⟨c,1⟩ λr=>
 bz ⟨c,2⟩ λs=>
 bz ⟨c,3⟩ λt=>
 aM (vQ r s) λu=>
 co ⟨c,3⟩ (Ks.mk cu t)<|
 aM (Am u 1000000000 t) λv=>
 join cb (λw=>
 qt ⟨c,8⟩ λx=>
 aq (!x) (
 w true)<|
 deref d λy=>
 fx y 1 λz=>
 deref z λA=>
 d_ (0≤(0:Int)∧(0:Int)<3)<|
 bz ⟨A.b,A.o+4+(0:Int).toNat*1⟩ λB=>
 w (decide (v≥B))) λ(C:Bool)=>
 aq C (
 bF<|
 deref d λD=>
 deref d λE=>
 fx D 1 λF=>
 cZ E 2 λG=>
 aM (Sx F G v) λH=>
 l ())<|
 l ())<|
 l ()) λ(I:Unit)=>
 ld aO ⟨c,0⟩ λJ=>
 bS (Sy d J h) λK=>
 bE (Sz d) λ(L:Int×Int)=>
 deref d λM=>
 so M 26 [.int .u64 L.1]<|
 join [] (λN=>
 aM (BI d) λO=>
 aq (decide (O>0)) (
 aM (BI d) λQ=>
 aM (OD Q L.1) λS=>
 join cb (λT=>
 deref d λU=>
 ob U 6 λV=>
 aq V (
 T true)<|
 deref d λX=>
 cZ X 24 λY=>
 T (decide ((if S>1 then S else 1)>Y))) λ(Z:Bool)=>
 aq Z (
 deref d λa0=>
 so a0 24 [.int .u64 (if S>1 then S else 1)]<|
 N ())<|
 N ())<|
 N ()) λ(a1:Unit)=>
 ld aO ⟨c,0⟩ λa2=>
 bS (SA d a2 h) λa3=>
 ld aO ⟨c,0⟩ λa4=>
 bS (SB d a4 a L.2) λa5=>
 bE (Oc d) λ(a6:eN)=>
 st ⟨e,0⟩ (Ks.mk bC a6)<|
 ld bC ⟨e,0⟩ λa7=>
 R a7:=bt Tryz.func142 (uz 0x2c01c00a3fc110004100100400100100100081a6542ae2070c6085048265004940025d430400b50448182265d51ea51212a1830441651029440257830410027811001209648c5ba20a58419441c394000306054598f384a820440e500094b0c1001)
instance Za(m:Option Pt):bs (BI m) λR=>
 deref m λa=>
 ob a 15 λc=>
 aq c (
 deref m λd=>
 cZ d 17 λe=>
 R e)<|
 deref m λf=>
 fx f 1 λg=>
 deref g λh=>
 d_ (0≤(0:Int)∧(0:Int)<3)<|
 bz ⟨h.b,h.o+4+(0:Int).toNat*1⟩ λi=>
 R i:=bt Tryz.func155 (uz 0xa)
instance ZX(m:Option Pt):bs (Sz m) λR=>
 deref m λa=>
 gw a 23 λc=>
 aq (c==0) (
 R (739,739))<|
 aq (c==1) (
 R (88,739))<|
 aq (c==2) (
 deref m λd=>
 ob d 15 λe=>
 aq e (
 R (256,512))<|
 deref m λf=>
 aM (S9 (some ⟨f.b,f.o+7⟩)) λg=>
 R (g,512))<|
 R (256,256):=bt Tryz.func204 (uz 0x1e7080041001)
instance ZW(d:Option Pt)(o:eI)(a:Bool):bs (Sy d o a) λR=>
 new (Ks.mk aO o) λc=>
 deref d λe=>
 cZ e 9 λf=>
 join [] (λg=>
 join cb (λh=>
 deref d λi=>
 gw i 23 λj=>
 aq (j==2) (
 deref d λk=>
 ob k 15 λl=>
 h (!l))<|
 h false) λ(m:Bool)=>
 aq m (
 bF<|
 deref d λn=>
 bz ⟨c,0⟩ λp=>
 bz ⟨c,6⟩ λq=>
 bz ⟨c,7⟩ λr=>
 aM (BI d) λs=>
 co ⟨c,7⟩ (Ks.mk cu r)<|
 co ⟨c,6⟩ (Ks.mk cu q)<|
 co ⟨c,0⟩ (Ks.mk cu p)<|
 aM (IF s f 320) λt=>
 co ⟨c,7⟩ (Ks.mk cu r)<|
 co ⟨c,6⟩ (Ks.mk cu q)<|
 co ⟨c,0⟩ (Ks.mk cu p)<|
 aM (BI d) λu=>
 co ⟨c,7⟩ (Ks.mk cu r)<|
 co ⟨c,6⟩ (Ks.mk cu q)<|
 co ⟨c,0⟩ (Ks.mk cu p)<|
 aM (IF u f 256) λv=>
 co ⟨c,7⟩ (Ks.mk cu r)<|
 co ⟨c,6⟩ (Ks.mk cu q)<|
 co ⟨c,0⟩ (Ks.mk cu p)<|
 bO (S6 (some ⟨n.b,n.o+7⟩) p f q r t v) λw=>
 g ())<|
 g ()) λ(x:Unit)=>
 bF<|
 deref d λy=>
 qt ⟨c,8⟩ λz=>
 deref d λA=>
 fx A 1 λB=>
 deref B λC=>
 d_ (0≤(0:Int)∧(0:Int)<3)<|
 bz ⟨C.b,C.o+4+(0:Int).toNat*1⟩ λD=>
 bO (S7 (some ⟨y.b,y.o+4⟩) a z D) λE=>
 join [] (λF=>
 join cb (λG=>
 deref d λH=>
 gw H 23 λI=>
 aq (I==0) (
 deref d λJ=>
 ob J 6 λK=>
 G K)<|
 G false) λ(L:Bool)=>
 aq L (
 deref d λM=>
 so M 23 [.int .i64 1]<|
 F ())<|
 F ()) λ(N:Unit)=>
 join [] (λO=>
 join cb (λQ=>
 bF<|
 deref d λS=>
 gw S 23 λT=>
 aq (T==1) (
 aq (decide (f>0)) (
 bz ⟨c,7⟩ λU=>
 aM (BI d) λV=>
 co ⟨c,7⟩ (Ks.mk cu U)<|
 aM (IF V f 256) λX=>
 co ⟨c,7⟩ (Ks.mk cu U)<|
 Q (decide (U≤X)))<|
 Q false)<|
 Q false) λ(Y:Bool)=>
 aq Y (
 deref d λZ=>
 so Z 23 [.int .i64 2]<|
 bF<|
 deref d λa0=>
 bz ⟨c,0⟩ λa1=>
 bS (KM (some ⟨a0.b,a0.o+7⟩) a1 2) λa2=>
 O ())<|
 O ()) λ(a3:Unit)=>
 bF<|
 deref d λa4=>
 bz ⟨c,0⟩ λa5=>
 bz ⟨c,4⟩ λa6=>
 bz ⟨c,7⟩ λa7=>
 deref d λa8=>
 bz a8 λa9=>
 bE (S8 (some ⟨a4.b,a4.o+9⟩) a5 a6 a a7 (IntKind.u64.wrap (4*a9))) λ(b0:Bool×Bool)=>
 join [] (λb1=>
 aq b0.1 (
 bF<|
 deref d λb2=>
 deref d λb3=>
 cZ b2 30 λb4=>
 cZ b3 25 λb5=>
 deref d λb6=>
 so b6 30 [.int .u64 (if b5>b4 then b5 else b4)]<|
 deref d λb7=>
 so b7 23 [.int .i64 3]<|
 b1 ())<|
 b1 ()) λ(b8:Unit)=>
 aq b0.2 (
 bF<|
 deref d λb9=>
 deref d λc0=>
 cZ b9 25 λc1=>
 cZ c0 30 λc2=>
 deref d λc3=>
 so c3 25 [.int .u64 (if c2>c1 then c2 else c1)]<|
 deref d λc4=>
 so c4 30 [zu]<|
 deref d λc5=>
 so c5 23 [zi]<|
 deref d λc6=>
 ob c6 6 λc7=>
 aq c7 (
 deref d λc8=>
 so c8 23 [.int .i64 2]<|
 bF<|
 deref d λc9=>
 bz ⟨c,0⟩ λd0=>
 bS (KM (some ⟨c9.b,c9.o+7⟩) d0 2) λd1=>
 R ())<|
 R ())<|
 R ():=bt Tryz.func203 (uz 0x8154c5a821011039400259bffc30010400608949a14e54d29604667d09523e579c3aa3513256d72e92862452040079400e500294006500094cfff0c104004081f42678f9523a575b36a3112e56962a92452041c30069400a5001940025eff0c10010048225268539904a54119507da6175533fa38d3022c91840402a51089421e51059440e5000968fc30408154c5a8210110394002587f0c0041821691a6071a42d7de68fb9d68da9b68ba5a18ea5a00ca5a10aa496162295d61e95861a91440c204002533f0c27bf0440041c0089fc11001207965133b234c2ca248087141006944125083940025b4304082279a6165534be86046a7cf99d70da9b2e60891c404642500e94632500a94422510694616510394002568304009a044004001001)
instance ZY(d:Option Pt)(o:eI)(a:Bool):bs (SA d o a) λR=>
 new (Ks.mk aO o) λb=>
 join cb (λc=>
 bz ⟨b,6⟩ λe=>
 aq (decide (e>0)) (
 deref d λf=>
 ob f 27 λg=>
 c (!g))<|
 c false) λ(h:Bool)=>
 aq h (
 deref d λi=>
 so i 27 [.bool true]<|
 deref d λj=>
 so j 28 [.bool true]<|
 bF<|
 bz ⟨b,1⟩ λk=>
 bz ⟨b,7⟩ λl=>
 deref d λm=>
 deref d λn=>
 cZ m 30 λp=>
 cZ n 25 λq=>
 aM (pO k l) λr=>
 jy n 25 q<|
 jy m 30 p<|
 deref d λs=>
 so s 29 [.int .u64 r]<|
 deref d λt=>
 so t 30 [.int .u64 (if q>p then q else p)]<|
 R ())<|
 deref d λu=>
 ob u 27 λv=>
 aq (!v) (
 R ())<|
 join [] (λw=>
 aq a (
 deref d λx=>
 so x 28 [.bool false]<|
 w ())<|
 w ()) λ(y:Unit)=>
 bF<|
 bz ⟨b,1⟩ λz=>
 deref d λA=>
 cZ A 29 λB=>
 aq (decide (z≥B)) (
 deref d λC=>
 so C 27 [.bool false]<|
 deref d λD=>
 so D 28 [.bool false]<|
 bF<|
 deref d λE=>
 deref d λF=>
 cZ E 25 λG=>
 cZ F 30 λH=>
 deref d λI=>
 so I 25 [.int .u64 (if H>G then H else G)]<|
 deref d λJ=>
 gw J 23 λK=>
 aq (K !=3) (
 deref d λL=>
 so L 30 [zu]<|
 R ())<|
 R ())<|
 R ():=bt Tryz.func205 (uz 0x22071a32a2d12a56552692041c3182005940065000940fc3040041816486a451030400a51009720c120010804002092056a8d49524e58974aa4514255941aa7db3e938a34930814300b9401e51049440a50019400255430400410023c1101001)
instance ZZ(d:Option Pt)(o:eI)(a a':Int):bs (SB d o a a') λR=>
 new (Ks.mk aO o) λb=>
 bF<|
 deref d λc=>
 bz ⟨b,6⟩ λe=>
 deref d λf=>
 cZ c 25 λg=>
 bz f λh=>
 aM (vQ g e) λi=>
 co f (Ks.mk cu h)<|
 deref d λj=>
 so j 25 [.int .u64 (if h>i then h else i)]<|
 bF<|
 deref d λk=>
 deref d λl=>
 bz l λm=>
 cZ k 9 λn=>
 aM (BI d) λp=>
 jy k 9 n<|
 co l (Ks.mk cu m)<|
 aM (S_ p n a' a m) λq=>
 join [] (λr=>
 deref d λs=>
 ob s 28 λt=>
 aq t (
 bF<|
 deref d λu=>
 bz ⟨b,7⟩ λv=>
 bz ⟨b,5⟩ λw=>
 cZ u 25 λx=>
 aM (pO v w) λy=>
 jy u 25 x<|
 deref d λz=>
 so z 25 [.int .u64 (if y>x then y else x)]<|
 r ())<|
 bz ⟨b,5⟩ λA=>
 aq (A==0) (
 r ())<|
 deref d λB=>
 ob B 6 λC=>
 aq C (
 bF<|
 deref d λD=>
 bz ⟨b,5⟩ λE=>
 cZ D 25 λF=>
 aM (pO F E) λG=>
 deref d λH=>
 so H 25 [.int .u64 (if q<G then q else G)]<|
 r ())<|
 join cb (λI=>
 bF<|
 deref d λJ=>
 cZ J 25 λK=>
 aq (decide (K<q)) (
 I true)<|
 bz ⟨b,1⟩ λL=>
 deref d λM=>
 bz M λN=>
 I (decide (L<(IntKind.u64.wrap (10*N))))) λ(O:Bool)=>
 aq O (
 bF<|
 deref d λQ=>
 bz ⟨b,5⟩ λS=>
 cZ Q 25 λT=>
 aM (pO T S) λU=>
 deref d λV=>
 so V 25 [.int .u64 U]<|
 r ())<|
 r ()) λ(X:Unit)=>
 bF<|
 deref d λY=>
 deref d λZ=>
 cZ Y 25 λa0=>
 bz Z λa1=>
 deref d λa2=>
 so a2 25 [.int .u64 (if(IntKind.u64.wrap (4*a1))>a0 then(IntKind.u64.wrap (4*a1))else a0)]<|
 deref d λa3=>
 gw a3 23 λa4=>
 aq (a4==3) (
 deref d λa5=>
 bz a5 λa6=>
 deref d λa7=>
 so a7 25 [.int .u64 (IntKind.u64.wrap (4*a6))]<|
 R ())<|
 R ():=bt Tryz.func206 (uz 0x881d6cda8c44b95a54aa492041c3182005940065000969fc304081a60aa89448957547a840c60851650019400257ff0c18204267d73e97995ceb5d5cda5c5cca5b5cba5a5caa585c8a57009a57147a465541690c204812500094ffc308ffc112071a32a2d12a56582695d51ea1031822089451650019400250bf0c100100100181d6cda8c44b95a54aa595c9a840c8182147945165001940025a8304004200481e3a675961748dd9106618c14b10a0c02650889431e50029400255c30607dd3ea3893657183293cd1ea2c42832460802251459400650009480c1001)
instance YT(bn:Int):bs (RP bn) λR=>
 ko (Ss 10 false) λa=>
 new [.int .u64 (if(if 9000<bn then 9000 else bn)>100 then(if 9000<bn then 9000 else bn)else 100),.ptr a,zu,zu,zu,zi,.bool false,zi,zu,zu,zu,.bool false,.bool false,.bool false,zu,.bool false,.bool false,zu,zi,zu,zu,zu,zu,zi,zu,zu,.int .u64 739,.bool false,.bool false,zu,zu] λb=>
 deref (some ⟨b,0⟩) λc=>
 so c 25 [.int .u64 (IntKind.u64.wrap (10*(if(if 9000<bn then 9000 else bn)>100 then(if 9000<bn then 9000 else bn)else 100)))]<|
 deref (some ⟨b,0⟩) λd=>
 cZ d 25 λe=>
 aM (OD (IntKind.u64.wrap (e*1000)) 739) λf=>
 deref (some ⟨b,0⟩) λg=>
 so g 24 [.int .u64 f]<|
 R (some ⟨b,0⟩):=bt Tryz.func137 (uz 0x14)
instance ZN(ke:Int)(least:Bool):bs (Ss ke least) λR=>
 new [.int .u64 ke,zu,zu,zu,zu,zu,zu,zu,.bool least] λa=>
 aq least (
 deref (some ⟨a,0⟩) λb=>
 so b 4 [.int .u64 18446744073709551615,.int .u64 18446744073709551615,.int .u64 18446744073709551615]<|
 R (some ⟨a,0⟩))<|
 R (some ⟨a,0⟩):=bt Tryz.func194 (uz 0x28)
instance aaM(p:Option Pt)(start limited:Bool)(bw:Int):bs (S7 p start limited bw) λR=>
 deref p λa=>
 ob a 2 λb=>
 aq ((b||(!start))||limited) (
 deref p λc=>
 ob c 2 λd=>
 R d)<|
 deref p λe=>
 bz e λf=>
 aM (Am f 320 256) λg=>
 aq (decide (bw≥g)) (
 deref p λh=>
 st h [.int .u64 bw]<|
 deref p λi=>
 so i 1 [zi]<|
 R false)<|
 deref p λj=>
 gw j 1 λk=>
 deref p λl=>
 so l 1 [.int .i64 (IntKind.i64.wrap (k+1))]<|
 deref p λm=>
 gw m 1 λn=>
 deref p λo=>
 so o 2 [.bool (decide (n≥3))]<|
 deref p λq=>
 ob q 2 λr=>
 R r:=bt Tryz.func257 (uz 0x29)
instance ZT(d:Option Pt)(o:Bool)(a:eI):bs (Sw d o a) λR=>
 new (Ks.mk aO a) λb=>
 bF<|
 deref d λc=>
 bz ⟨b,6⟩ λe=>
 cZ c 4 λf=>
 aM (pO f e) λg=>
 deref d λh=>
 so h 4 [.int .u64 g]<|
 deref d λi=>
 qt i λj=>
 aq j (
 join [] (λk=>
 aq o (
 deref d λl=>
 gw l 3 λm=>
 deref d λn=>
 so n 3 [.int .i64 (IntKind.i64.wrap (m+1))]<|
 k ())<|
 k ()) λ(p:Unit)=>
 deref d λq=>
 gw q 3 λr=>
 aq (decide (r≥48)) (
 deref d λs=>
 st s [.bool false]<|
 deref d λt=>
 so t 3 [zi]<|
 bS (KJ d) λu=>
 R ())<|
 R ())<|
 deref d λv=>
 ob v 1 λw=>
 aq (!w) (
 bz ⟨b,6⟩ λx=>
 aq (decide (x>0)) (
 ld aO ⟨b,0⟩ λy=>
 bS (OP d y) λz=>
 R ())<|
 R ())<|
 qt ⟨b,8⟩ λA=>
 aq A (
 bS (KJ d) λB=>
 R ())<|
 join [] (λC=>
 aq o (
 deref d λD=>
 gw D 3 λE=>
 deref d λF=>
 so F 3 [.int .i64 (IntKind.i64.wrap (E+1))]<|
 C ())<|
 C ()) λ(G:Unit)=>
 deref d λH=>
 gw H 3 λI=>
 aq (decide (I>16)) (
 bS (KJ d) λJ=>
 R ())<|
 join cb (λK=>
 deref d λL=>
 gw L 3 λM=>
 aq (decide (M≥4)) (
 bz ⟨b,6⟩ λN=>
 K (decide (N>0)))<|
 K false) λ(O:Bool)=>
 aq O (
 ld aO ⟨b,0⟩ λQ=>
 bS (SY d Q) λS=>
 R ())<|
 R ():=bt Tryz.func200 (uz 0x700227f044001001088004241a810182001010010603cd2aa24622530a1ea1031821459400650009450c1001)
instance aaC(p:Option Pt)(s:eI):bs (OP p s) λR=>
 new (Ks.mk aO s) λa=>
 deref p λb=>
 so b 1 [.bool true]<|
 deref p λc=>
 so c 3 [zi]<|
 bF<|
 bz ⟨a,0⟩ λd=>
 bz ⟨a,1⟩ λe=>
 deref p λf=>
 cZ f 4 λg=>
 deref p λh=>
 so h 5 [.int .u64 d]<|
 co ⟨a,1⟩ (Ks.mk cu e)<|
 deref p λi=>
 so i 6 [.int .u64 e]<|
 deref p λj=>
 so j 7 [.int .u64 g]<|
 R ():=bt Tryz.func247 (uz 0x8216d3aa04a531195f5d0a9e3e52ce95d38da8c28b94a2481840079431650c39400a5001940025243001001)
instance aaD(d:Option Pt)(o:eI):bs (SY d o) λR=>
 new (Ks.mk aO o) λa=>
 bF<|
 bz ⟨a,1⟩ λb=>
 deref d λc=>
 deref d λe=>
 deref d λf=>
 bz ⟨a,0⟩ λg=>
 deref d λh=>
 cZ c 6 λi=>
 cZ e 4 λj=>
 cZ f 7 λk=>
 cZ h 5 λl=>
 aM (vQ b i) λm=>
 jy h 5 l<|
 jy f 7 k<|
 jy e 4 j<|
 co ⟨a,0⟩ (Ks.mk cu g)<|
 aM (vQ j k) λn=>
 jy h 5 l<|
 co ⟨a,0⟩ (Ks.mk cu g)<|
 aM (vQ g l) λp=>
 join [] (λq=>
 aq ((m==0)||(p==0)) (
 R ())<|
 aM (Am m 50 256) λr=>
 aq (decide (n<r)) (
 R ())<|
 q ()) λ(s:Unit)=>
 aM (Am m 1000000000 p) λt=>
 join cb (λu=>
 deref d λv=>
 cZ v 2 λw=>
 aq (decide (w>0)) (
 deref d λx=>
 cZ x 2 λy=>
 bO (Ts y t) λz=>
 u z)<|
 u false) λ(A:Bool)=>
 aq A (
 bF<|
 deref d λB=>
 deref d λC=>
 cZ B 2 λD=>
 cZ C 2 λE=>
 deref d λF=>
 so F 2 [.int .u64 (IntKind.u64.wrap ((IntKind.u64.wrap ((IntKind.u64.wrap (D.tdiv 2))+(IntKind.u64.wrap (t.tdiv 2))))+(IntKind.u64.wrap ((IntKind.u64.wrap ((E.tmod 2)+(t.tmod 2))).tdiv 2))))]<|
 deref d λG=>
 st G [.bool true]<|
 deref d λH=>
 so H 3 [zi]<|
 R ())<|
 deref d λI=>
 so I 2 [.int .u64 t]<|
 ld aO ⟨a,0⟩ λJ=>
 bS (OP d J) λK=>
 R ():=bt Tryz.func248 (uz 0x1c01e096356a5114e58994a9460790a58588a4d14c10b0cf2870873a50099471a5001940025e83041002e811010012001209d99a06263979a6896a9f6cfa8d246a9538a15434911344c2030404a50d09402e50079400a50c09470c1001)
instance aaB(p:Option Pt):bs (KJ p) λR=>
 deref p λa=>
 so a 1 [.bool false]<|
 deref p λb=>
 so b 2 [zu]<|
 R ():=bt Tryz.func246 .o
instance aaO(d:Option Pt)(o a:Int)(a':Bool)(a'' a''':Int):bs (S8 d o a a' a'' a''') λR=>
 join cb (λb=>
 deref d λc=>
 bz c λe=>
 aq (decide (e>0)) (
 deref d λf=>
 cZ f 1 λg=>
 aM (pO g 10000000000) λh=>
 b (decide (o>h)))<|
 b false) λ(i:Bool)=>
 join [] (λj=>
 join cb (λk=>
 aq (decide (a>0)) (
 deref d λl=>
 bz l λm=>
 aq (m==0) (
 k true)<|
 deref d λn=>
 bz n λp=>
 k ((decide (a≤p))||i))<|
 k false) λ(q:Bool)=>
 aq q (
 deref d λr=>
 st r [.int .u64 a]<|
 deref d λs=>
 so s 1 [.int .u64 o]<|
 j ())<|
 j ()) λ(t:Unit)=>
 join cb (λu=>
 aq i (
 deref d λv=>
 ob v 2 λw=>
 u (!w))<|
 u false) λ(x:Bool)=>
 aq x (
 deref d λy=>
 so y 2 [.bool true]<|
 deref d λz=>
 so z 3 [.bool false]<|
 deref d λA=>
 so A 4 [.bool false]<|
 R (true,false))<|
 deref d λB=>
 ob B 2 λC=>
 aq (!C) (
 R (false,false))<|
 deref d λD=>
 ob D 3 λE=>
 aq (!E) (
 aq (decide (a''≤a''')) (
 aM (pO o 200000000) λF=>
 deref d λG=>
 so G 3 [.bool true]<|
 deref d λH=>
 so H 4 [.bool false]<|
 deref d λI=>
 so I 5 [.int .u64 F]<|
 R (false,false))<|
 R (false,false))<|
 deref d λJ=>
 ob J 4 λK=>
 deref d λL=>
 so L 4 [.bool (K||a')]<|
 join cb (λM=>
 deref d λN=>
 ob N 4 λO=>
 aq O (
 deref d λQ=>
 cZ Q 5 λS=>
 M (decide (o>S)))<|
 M false) λ(T:Bool)=>
 aq T (
 deref d λU=>
 so U 1 [.int .u64 o]<|
 deref d λV=>
 so V 2 [.bool false]<|
 deref d λX=>
 so X 3 [.bool false]<|
 R (false,true))<|
 R (false,false):=bt Tryz.func259 (uz 0x1ce002e3f04404005b04904e00207f044047002c0110010008e044001)
instance ZS(r:Option Pt)(s:eI):bs (Sv r s) λR=>
 new (Ks.mk aO s) λa=>
 join [] (λb=>
 bF<|
 bz ⟨a,5⟩ λc=>
 aq (c==0) (
 R false)<|
 bz ⟨a,2⟩ λd=>
 deref r λe=>
 cZ e 1 λf=>
 aq (decide (d<f)) (
 R false)<|
 b ()) λ(g:Unit)=>
 bz ⟨a,1⟩ λh=>
 deref r λi=>
 so i 1 [.int .u64 h]<|
 deref r λj=>
 bz j λk=>
 deref r λl=>
 st l [.int .u64 (IntKind.u64.wrap (k+1))]<|
 R true:=bt Tryz.func199 (uz 0xb3203c82e938a20ab4d209a4c208a4b207a49205a48006a480c4a430810c09440c1004001)
instance YX(d:Option Pt)(o a:Int)(a':lm):bs (RS d o a a') λR=>
 new (Ks.mk bZ a') λb=>
 deref d λc=>
 bz c λe=>
 aM (pO e a) λf=>
 deref d λg=>
 st g [.int .u64 f]<|
 deref d λh=>
 so h 1 [.int .u64 o]<|
 join [] (λi=>
 bF<|
 deref d λj=>
 deref d λk=>
 bz j λl=>
 cZ k 3 λm=>
 aq (decide (l>m)) (
 deref d λn=>
 so n 3 [zu]<|
 i ())<|
 i ()) λ(p:Unit)=>
 deref d λq=>
 cZ q 5 λr=>
 aM (pO r a) λs=>
 deref d λt=>
 so t 5 [.int .u64 s]<|
 join [] (λu=>
 join cb (λv=>
 bF<|
 deref d λw=>
 ob w 4 λx=>
 aq (!x) (
 v true)<|
 bz ⟨b,1⟩ λy=>
 deref d λz=>
 cZ z 6 λA=>
 v (decide (y≥A))) λ(B:Bool)=>
 aq B (
 bF<|
 bz ⟨b,1⟩ λC=>
 bz ⟨b,2⟩ λD=>
 qt ⟨b,4⟩ λE=>
 deref d λF=>
 so F 6 [.int .u64 C]<|
 co ⟨b,4⟩ (Ks.mk cb E)<|
 co ⟨b,2⟩ (Ks.mk cu D)<|
 deref d λG=>
 so G 7 [.int .u64 D]<|
 co ⟨b,4⟩ (Ks.mk cb E)<|
 deref d λH=>
 so H 10 [.bool E]<|
 bF<|
 bz ⟨b,0⟩ λI=>
 bz ⟨b,3⟩ λJ=>
 bz ⟨b,0⟩ λK=>
 aM (vQ I J) λL=>
 co ⟨b,0⟩ (Ks.mk cu K)<|
 aM (vQ o K) λM=>
 deref d λN=>
 so N 8 [.int .u64 L]<|
 deref d λO=>
 so O 9 [.int .u64 M]<|
 bz ⟨b,0⟩ λQ=>
 deref d λS=>
 so S 2 [.int .u64 Q]<|
 u ())<|
 u ()) λ(T:Unit)=>
 deref d λU=>
 so U 4 [.bool true]<|
 R ():=bt Tryz.func141 (uz 0x207db42a78f9523a575736a3112e56982aa5941aa2450c72250479471251c2940065000947fc30607d946a7909533e57573aa70d9523256d52ea2912652061071e51c59470e50029400650009770c106075636971858cb5b58ba5a58aa59589a57587a56008a561c6a451030810009690c2dc1100100047818508a470c60850401250009540c1004001001)
instance Z1(s:Option Pt)(flight:Int):bs (SD s flight) λR=>
 deref s λa=>
 bz a λb=>
 aM (pO b flight) λc=>
 deref s λd=>
 so d 3 [.int .u64 (if c>1 then c else 1)]<|
 R ():=bt Tryz.func208 .o
instance Z3(s:Option Pt)(ao flight:Int):bs (SF s ao flight) λR=>
 new [zu,zu,zu,zu,.bool false] λa=>
 join [] (λb=>
 aq (flight==0) (
 deref s λc=>
 so c 2 [.int .u64 ao]<|
 deref s λd=>
 so d 1 [.int .u64 ao]<|
 b ())<|
 b ()) λ(e:Unit)=>
 bF<|
 deref s λf=>
 deref s λg=>
 deref s λh=>
 deref s λi=>
 bz f λj=>
 cZ g 1 λk=>
 cZ h 2 λl=>
 cZ i 3 λm=>
 st ⟨a,0⟩ [.int .u64 ao,.int .u64 j,.int .u64 k,.int .u64 l,.bool (m !=0)]<|
 ld bZ ⟨a,0⟩ λn=>
 R n:=bt Tryz.func210 (uz 0x823193aa27595514b545030810f2c70ce286080365009940165001941025403048004001)
instance YZ(d:Option Pt)(o a a':Int):bs (Oo d o a a') λR=>
 new [zu,zu,zu,zu,zu,zu,zu,zu,.bool false] λb=>
 deref d λc=>
 bz c λe=>
 new [zu,zu,zu,zu,zu,zu,zu,zu,.bool false] λf=>
 st ⟨f,0⟩ [.int .u64 o,.int .u64 e,zu,zu,zu,zu,.int .u64 a,.int .u64 a',.bool false]<|
 join [] (λg=>
 deref d λh=>
 ob h 4 λi=>
 aq i (
 bF<|
 deref d λj=>
 deref d λk=>
 deref d λl=>
 deref d λm=>
 cZ j 5 λn=>
 cZ k 6 λp=>
 ob l 10 λq=>
 cZ m 9 λr=>
 st ⟨f,5⟩ [.int .u64 n]<|
 jy m 9 r<|
 WM l 10 q<|
 jy k 6 p<|
 st ⟨f,2⟩ [.int .u64 p]<|
 jy m 9 r<|
 WM l 10 q<|
 st ⟨f,8⟩ [.bool q]<|
 jy m 9 r<|
 st ⟨f,4⟩ [.int .u64 r]<|
 bF<|
 deref d λs=>
 deref d λt=>
 cZ s 8 λu=>
 cZ t 7 λv=>
 aM (vQ o v) λw=>
 jy s 8 u<|
 st ⟨f,3⟩ [.int .u64 (if w>u then w else u)]<|
 g ())<|
 g ()) λ(x:Unit)=>
 deref d λy=>
 so y 4 [.bool false]<|
 deref d λz=>
 so z 5 [zu]<|
 deref d λA=>
 so A 6 [zu]<|
 deref d λB=>
 so B 7 [zu]<|
 deref d λC=>
 so C 8 [zu]<|
 deref d λD=>
 so D 9 [zu]<|
 deref d λE=>
 so E 10 [.bool false]<|
 ld aO ⟨f,0⟩ λF=>
 st ⟨b,0⟩ (Ks.mk aO F)<|
 ld aO ⟨b,0⟩ λG=>
 R G:=bt Tryz.func143 (uz 0x20081c6cca892e56942a965526a2031c21810059411250009690e09205ea256963715a895258984ea252961511a894253cb1c338a18234914100c940225004940025543041001004001001)
instance aaH(w':Option Pt)(t v:Int):bs (S5 w' t v) λR=>
 deref w' λa=>
 so a 1 [.int .u64 t,.int .u64 t,.int .u64 t]<|
 deref w' λb=>
 so b 4 [.int .u64 v,.int .u64 v,.int .u64 v]<|
 deref w' λc=>
 cZ c 7 λd=>
 deref w' λe=>
 so e 7 [.int .u64 (if t>d then t else d)]<|
 R ():=bt Tryz.func252 (uz 7)
instance ZV(d:Option Pt)(o a:Int):bs (Sx d o a) λR=>
 deref d λc=>
 cZ c 7 λe=>
 deref d λf=>
 so f 7 [.int .u64 (if e>o then e else o)]<|
 join cb (λg=>
 bF<|
 bO (KK d a 0) λh=>
 aq h (
 g true)<|
 deref d λi=>
 d_ (0≤(2:Int)∧(2:Int)<3)<|
 bz ⟨i.b,i.o+1+(2:Int).toNat*1⟩ λj=>
 aq (decide ((if e>o then e else o)>j)) (
 deref d λk=>
 deref d λl=>
 d_ (0≤(2:Int)∧(2:Int)<3)<|
 bz l λm=>
 bz ⟨k.b,k.o+1+(2:Int).toNat*1⟩ λn=>
 g (decide ((IntKind.u64.wrap ((if e>o then e else o)-n))>m)))<|
 g false) λ(p:Bool)=>
 aq p (
 bS (S5 d (if e>o then e else o) a) λq=>
 R a)<|
 join [] (λr=>
 bO (KK d a 1) λs=>
 aq s (
 bS (Dw d 1 (if e>o then e else o) a) λt=>
 bS (Dw d 2 (if e>o then e else o) a) λu=>
 r ())<|
 bO (KK d a 2) λv=>
 aq v (
 bS (Dw d 2 (if e>o then e else o) a) λw=>
 r ())<|
 r ()) λ(x:Unit)=>
 deref d λy=>
 d_ (0≤(0:Int)∧(0:Int)<3)<|
 bz ⟨y.b,y.o+1+(0:Int).toNat*1⟩ λz=>
 aM (vQ (if e>o then e else o) z) λA=>
 join [] (λB=>
 deref d λC=>
 bz C λD=>
 aq (decide (A>D)) (
 bS (OQ d (if e>o then e else o) a) λE=>
 bF<|
 deref d λF=>
 deref d λG=>
 d_ (0≤(0:Int)∧(0:Int)<3)<|
 bz G λH=>
 bz ⟨F.b,F.o+1+(0:Int).toNat*1⟩ λI=>
 aM (vQ (if e>o then e else o) I) λJ=>
 co G (Ks.mk cu H)<|
 aq (decide (J>H)) (
 bS (OQ d (if e>o then e else o) a) λK=>
 B ())<|
 B ())<|
 join cb (λL=>
 bF<|
 deref d λM=>
 deref d λN=>
 d_ (0≤(1:Int)∧(1:Int)<3)<|
 d_ (0≤(0:Int)∧(0:Int)<3)<|
 bz ⟨M.b,M.o+1+(1:Int).toNat*1⟩ λO=>
 bz ⟨N.b,N.o+1+(0:Int).toNat*1⟩ λQ=>
 aq (O==Q) (
 deref d λS=>
 bz S λT=>
 L (decide (A>(IntKind.u64.wrap (T.tdiv 4)))))<|
 L false) λ(U:Bool)=>
 aq U (
 bS (Dw d 1 (if e>o then e else o) a) λV=>
 bS (Dw d 2 (if e>o then e else o) a) λX=>
 B ())<|
 bF<|
 deref d λY=>
 deref d λZ=>
 d_ (0≤(2:Int)∧(2:Int)<3)<|
 d_ (0≤(1:Int)∧(1:Int)<3)<|
 bz ⟨Y.b,Y.o+1+(2:Int).toNat*1⟩ λa0=>
 bz ⟨Z.b,Z.o+1+(1:Int).toNat*1⟩ λa1=>
 aq (a0==a1) (
 deref d λa2=>
 bz a2 λa3=>
 aq (decide (A>(IntKind.u64.wrap (a3.tdiv 2)))) (
 bS (Dw d 2 (if e>o then e else o) a) λa4=>
 B ())<|
 B ())<|
 B ()) λ(a5:Unit)=>
 deref d λa6=>
 d_ (0≤(0:Int)∧(0:Int)<3)<|
 bz ⟨a6.b,a6.o+4+(0:Int).toNat*1⟩ λa7=>
 R a7:=bt Tryz.func202 (uz 0x1c78245268dc4e989d712b61711a60710a5f70fa5e70ea5c00da5c1cca4b6952a92442031c218100594002513ffc30470609149a3713a6275c4ad85c46981c4297dc3e979c3a97003697073292da54aa491080c7086040165000966fc30a6fc110781b5cba56446a85284243202007940065040955fc304004100108010006b0043a0ea5669e6d958b78d2d5edceeb52b72b51a77b56a71b50a76b55a70b4fa75b54a6fb4ea6d013a6d00da6d04ca6c94ba6b9a52adaa5269a65229a251e99e51a9940169941129903963882a820650000c2ac1101001001001)
instance aaG(w':Option Pt)(v i:Int):bs (KK w' v i) λR=>
 deref w' λa=>
 ob a 8 λc=>
 aq c (
 deref w' λd=>
 d_ (0≤i∧i<3)<|
 bz ⟨d.b,d.o+4+i.toNat*1⟩ λe=>
 R (decide (v≤e)))<|
 deref w' λf=>
 d_ (0≤i∧i<3)<|
 bz ⟨f.b,f.o+4+i.toNat*1⟩ λg=>
 R (decide (v≥g)):=bt Tryz.func251 (uz 0xa)
instance aaI(w':Option Pt)(i t v:Int):bs (Dw w' i t v) λR=>
 bF<|
 deref w' λa=>
 deref w' λc=>
 d_ (0≤i∧i<3)<|
 st ⟨a.b,a.o+1+i.toNat*1⟩ [.int .u64 t]<|
 d_ (0≤i∧i<3)<|
 st ⟨c.b,c.o+4+i.toNat*1⟩ [.int .u64 v]<|
 R ():=bt Tryz.func253 (uz 0x208cd36a88b32980c26a3c922984b94e1e52881a50c59421250439400a5040003)
instance aaJ(w':Option Pt)(t v:Int):bs (OQ w' t v) λR=>
 bF<|
 deref w' λa=>
 deref w' λc=>
 deref w' λd=>
 deref w' λe=>
 d_ (0≤(1:Int)∧(1:Int)<3)<|
 d_ (0≤(2:Int)∧(2:Int)<3)<|
 d_ (0≤(1:Int)∧(1:Int)<3)<|
 d_ (0≤(2:Int)∧(2:Int)<3)<|
 bz ⟨a.b,a.o+1+(1:Int).toNat*1⟩ λf=>
 bz ⟨c.b,c.o+1+(2:Int).toNat*1⟩ λg=>
 bz ⟨d.b,d.o+4+(1:Int).toNat*1⟩ λh=>
 bz ⟨e.b,e.o+4+(2:Int).toNat*1⟩ λi=>
 deref w' λj=>
 so j 1 [.int .u64 f,.int .u64 g,.int .u64 t]<|
 deref w' λk=>
 so k 4 [.int .u64 h,.int .u64 i,.int .u64 v]<|
 R ():=bt Tryz.func254 (uz 0x20baa7eab5e947765b1e72a6c66a5a688d9b5d70c36d5d22c659128555024450f2030989404e500e9413250079400a5001940025143)
instance abj(Mf bw:Int):bs (Ts Mf bw) λR=>
 R (decide ((IntKind.u64.wrap ((if bw>Mf then bw else Mf)-(if bw<Mf then bw else Mf)))≤(IntKind.u64.wrap (Mf.tdiv 8)))):=bt Tryz.func291 (uz 8)
instance YV(d:Option Pt)(o:Int)(a:Sl):bs (Kr d o a) λR=>
 deref d λb=>
 cZ b 1 λc=>
 loop [.bool,.int .i64] ((decide (o>c)),0) λe (f:Bool×Int)=>
 aq (decide (f.2<((a.len:Nat):Int))) (
 bF<|
 aq f.1 (
 e (true,(IntKind.i64.wrap (f.2+1))))<|
 idx a f.2 2 λg=>
 deref d λh=>
 cZ g 1 λi=>
 cZ h 1 λj=>
 aq (decide (i>j)) (
 e (true,(IntKind.i64.wrap (f.2+1))))<|
 idx a f.2 2 λk=>
 idx a f.2 2 λl=>
 bz k λm=>
 cZ l 1 λn=>
 e ((decide (m≥n)),(IntKind.i64.wrap (f.2+1))))<|
 aq f.1 (
 R (⟨none,0,0⟩,0,11))<|
 loop Qs (⟨none,0,0⟩,⟨none,0,0⟩,0) λp (q:Qw)=>
 deref d λr=>
 ec r λs=>
 aq (decide (q.2.2<((s.len:Nat):Int))) (
 deref d λt=>
 ec t λu=>
 idx u q.2.2 9 λv=>
 ld aD v λw=>
 new [zu,zu,zu,zu,zu,zu,.bool false,.bool false,.bool false] λx=>
 st ⟨x,0⟩ (Ks.mk aD w)<|
 join [.bool,.bool] (λy=>
 bF<|
 bz ⟨x,1⟩ λz=>
 qt ⟨x,7⟩ λA=>
 aq (!A) (
 ld aD ⟨x,0⟩ λB=>
 bO (Su B a) λC=>
 co ⟨x,1⟩ (Ks.mk cu z)<|
 y ((decide (z≤o)),C))<|
 y ((decide (z≤o)),false)) λ(D:Bool×Bool)=>
 join cl (λE=>
 join cb (λF=>
 aq D.1 (
 qt ⟨x,7⟩ λG=>
 F ((!G)||((!D.1)&&D.2)))<|
 F ((!D.1)&&D.2)) λ(H:Bool)=>
 aq H (
 ld aD ⟨x,0⟩ λI=>
 new [.int .u64 I.1,.int .u64 I.2.1,.int .u64 I.2.2.1,.int .u64 I.2.2.2.1,.int .u64 I.2.2.2.2.1,.int .u64 I.2.2.2.2.2.1,.bool I.2.2.2.2.2.2.1,.bool I.2.2.2.2.2.2.2.1,.bool I.2.2.2.2.2.2.2.2] λJ=>
 mw 9 q.2.1 ⟨some ⟨J,0⟩,1,1⟩ λK=>
 E K)<|
 E q.2.1) λ(L:Sl)=>
 aq D.1 (
 p (q.1,L,(IntKind.i64.wrap (q.2.2+1))))<|
 join [] (λM=>
 aq D.2 (
 st ⟨x,7⟩ [.bool true]<|
 st ⟨x,8⟩ [.bool false]<|
 M ())<|
 M ()) λ(N:Unit)=>
 ld aD ⟨x,0⟩ λO=>
 new [.int .u64 O.1,.int .u64 O.2.1,.int .u64 O.2.2.1,.int .u64 O.2.2.2.1,.int .u64 O.2.2.2.2.1,.int .u64 O.2.2.2.2.2.1,.bool O.2.2.2.2.2.2.1,.bool O.2.2.2.2.2.2.2.1,.bool O.2.2.2.2.2.2.2.2] λQ=>
 mw 9 q.1 ⟨some ⟨Q,0⟩,1,1⟩ λS=>
 p (S,L,(IntKind.i64.wrap (q.2.2+1))))<|
 loop Qt (0,0,(IntKind.i64.wrap (((q.1.len:Nat):Int)-1))) λT (U:Qx)=>
 aq (decide (U.2.2≥0)) (
 idx q.1 U.2.2 9 λV=>
 deref (some V) λX=>
 ob X 7 λY=>
 aq Y (
 T (U.1,(IntKind.i64.wrap (U.2.1+1)),(IntKind.i64.wrap (U.2.2-1))))<|
 deref (some V) λZ=>
 ob Z 8 λa0=>
 aq ((!a0)&&(decide (U.2.1≥3))) (
 deref (some V) λa1=>
 so a1 8 [.bool true]<|
 bF<|
 deref (some V) λa2=>
 deref (some V) λa3=>
 cZ a2 1 λa4=>
 bz a3 λa5=>
 T ((IntKind.u64.wrap ((IntKind.u64.wrap (U.1+a4))-a5)),U.2.1,(IntKind.i64.wrap (U.2.2-1))))<|
 T (U.1,U.2.1,(IntKind.i64.wrap (U.2.2-1))))<|
 deref d λa6=>
 st a6 [.sl q.1]<|
 R (q.2.1,U.1,0):=bt Tryz.func139 (uz 0x800081afff2e667ffd5fff2a953ffd0fff16963ffc9953fff1255fffc8952fff0e55bffc7951fff0a54c69530650110c00410010010010800420480414c14804431820010400400080042011c00a5fc110430112070d9943266d82e969960ab98089a58388a47193483a4504e12504294e02533f0c24023c21000420480413443042c318200104004904082a6a6a5e669a23798b67797a62792a66796a61791a6591e56d81f790b5e294a5e093a5e28fa5e08ea4d7123296d748bb5a48aa56486a59489a55485a58488a544d212d4801e948a0e94820a904902580308120104a089086080041001001)
instance Z4(b:Option Pt)(s:lm):bs (SG b s) λR=>
 new (Ks.mk bZ s) λa=>
 new [zu,zu] λc=>
 bg (OR b) λd=>
 aq (decide (d<0)) (
 st ⟨c,0⟩ [zu,zu]<|
 ld cr ⟨c,0⟩ λ(e:Int×Int)=>
 R (e,false))<|
 deref b λf=>
 ec f λg=>
 mw 9 ⟨none,0,0⟩ g λh=>
 bF<|
 ld bZ ⟨a,0⟩ λi=>
 idx h d 9 λj=>
 so j 8 [.bool false]<|
 co ⟨a,0⟩ (Ks.mk bZ i)<|
 idx h d 9 λk=>
 so k 2 (Ks.mk bZ i)<|
 deref b λl=>
 st l [.sl h]<|
 bF<|
 idx h d 9 λm=>
 idx h d 9 λn=>
 bz m λo=>
 cZ n 1 λp=>
 st ⟨c,0⟩ [.int .u64 o,.int .u64 p]<|
 ld cr ⟨c,0⟩ λ(q:Int×Int)=>
 R (q,true):=bt Tryz.func211 (uz 0x80c89b10ba9a54aa491080d7587a52442a461a51c59460651c095e0c100182584aaa426581f2298c79a21a579d1690c49460e50811c09450c1001241001001)
instance Yj(b:Option Pt):bs (Fh b) λR=>
 loop [.int .u64,.int .i64] (0,0) λa (c:Int×Int)=>
 deref b λd=>
 ec d λe=>
 aq (decide (c.2<((e.len:Nat):Int))) (
 join cb (λf=>
 deref b λg=>
 ec g λh=>
 idx h c.2 9 λi=>
 ob i 7 λj=>
 aq (!j) (
 deref b λk=>
 ec k λl=>
 idx l c.2 9 λm=>
 ob m 8 λn=>
 f (!n))<|
 f false) λ(o:Bool)=>
 aq o (
 bF<|
 deref b λp=>
 deref b λq=>
 ec p λr=>
 ec q λs=>
 idx r c.2 9 λt=>
 idx s c.2 9 λu=>
 cZ t 1 λv=>
 bz u λw=>
 a ((IntKind.u64.wrap ((IntKind.u64.wrap (c.1+v))-w)),(IntKind.i64.wrap (c.2+1))))<|
 a (c.1,(IntKind.i64.wrap (c.2+1))))<|
 R c.1:=bt Tryz.func101 (uz 0x1c00208d39a2692a59449a512101df78fa56546a4d10c0cb0843a500a9441650019430258430400a1044081201044003086080041001001)
instance Y0(b:Option Pt):bs (RT b) λR=>
 aM (Fh b) λa=>
 loop [.sl,.int .i64] (⟨none,0,0⟩,0) λc (d:Sl×Int)=>
 deref b λe=>
 ec e λf=>
 aq (decide (d.2<((f.len:Nat):Int))) (
 deref b λg=>
 ec g λh=>
 idx h d.2 9 λi=>
 ld aD i λj=>
 new [zu,zu,zu,zu,zu,zu,.bool false,.bool false,.bool false] λk=>
 st ⟨k,0⟩ (Ks.mk aD j)<|
 join [] (λl=>
 qt ⟨k,8⟩ λm=>
 aq m (
 st ⟨k,8⟩ [.bool true]<|
 l ())<|
 qt ⟨k,7⟩ λn=>
 st ⟨k,8⟩ [.bool (!n)]<|
 l ()) λ(o:Unit)=>
 ld aD ⟨k,0⟩ λp=>
 new [.int .u64 p.1,.int .u64 p.2.1,.int .u64 p.2.2.1,.int .u64 p.2.2.2.1,.int .u64 p.2.2.2.2.1,.int .u64 p.2.2.2.2.2.1,.bool p.2.2.2.2.2.2.1,.bool p.2.2.2.2.2.2.2.1,.bool p.2.2.2.2.2.2.2.2] λq=>
 mw 9 d.1 ⟨some ⟨q,0⟩,1,1⟩ λr=>
 c (r,(IntKind.i64.wrap (d.2+1))))<|
 deref b λs=>
 st s [.sl d.1]<|
 R a:=bt Tryz.func144 (uz 0x200000004001081201045104086080041001001001)
instance Z0(b:Option Pt):bs (SC b) λR=>
 new [zu,zu] λa=>
 bg (OR b) λc=>
 aq (decide (c<0)) (
 st ⟨a,0⟩ [zu,zu]<|
 ld cr ⟨a,0⟩ λ(d:Int×Int)=>
 R (d,false))<|
 bF<|
 deref b λe=>
 deref b λf=>
 ec e λg=>
 ec f λh=>
 idx g c 9 λi=>
 idx h c 9 λj=>
 bz i λk=>
 cZ j 1 λl=>
 st ⟨a,0⟩ [.int .u64 k,.int .u64 l]<|
 ld cr ⟨a,0⟩ λ(m:Int×Int)=>
 R (m,true):=bt Tryz.func207 (uz 0x8128a1091aa0610a4f1ce19d70da4e345a4b0ca0890443250089441250009490c1241001001)
instance Z6(b:Option Pt)(from' to':Int)(s:lm):bs (SI b from' to' s) λR=>
 new (Ks.mk bZ s) λa=>
 deref b λc=>
 cZ c 1 λd=>
 aq ((from' !=d)||(decide (to'≤from'))) (
 R 1)<|
 deref b λe=>
 ec e λf=>
 aq (decide (((f.len:Nat):Int)≥4096)) (
 R 5)<|
 bF<|
 ld bZ ⟨a,0⟩ λg=>
 deref b λh=>
 ec h λi=>
 both (
 mw 9 ⟨none,0,0⟩ i λj=>
 co ⟨a,0⟩ (Ks.mk bZ g)<|
 new [.int .u64 from',.int .u64 to',.int .u64 g.1,.int .u64 g.2.1,.int .u64 g.2.2.1,.int .u64 g.2.2.2.1,.bool g.2.2.2.2,.bool false,.bool false] λk=>
 co h (Ks.mk cl i)<|
 mw 9 j ⟨some ⟨k,0⟩,1,1⟩ λl=>
 deref b λm=>
 st m [.sl l]<|
 deref b λn=>
 so n 1 [.int .u64 to']<|
 R 0)<|
 new [.int .u64 from',.int .u64 to',.int .u64 g.1,.int .u64 g.2.1,.int .u64 g.2.2.1,.int .u64 g.2.2.2.1,.bool g.2.2.2.2,.bool false,.bool false] λo=>
 co h (Ks.mk cl i)<|
 mw 9 ⟨none,0,0⟩ i λp=>
 co ⟨a,0⟩ (Ks.mk bZ g)<|
 mw 9 p ⟨some ⟨o,0⟩,1,1⟩ λq=>
 deref b λr=>
 st r [.sl q]<|
 deref b λt=>
 so t 1 [.int .u64 to']<|
 R 0:=bt Tryz.func213 (uz 0x881e70ea8d44c95b58ba9516668a9a079c3aa3513256d62ea68a9951671036585c9b421c89421e50469400650009590c1241241001)
instance aaR(b:Option Pt):bs (OR b) λR=>
 loop ci 0 λa (c:Int)=>
 deref b λd=>
 ec d λe=>
 aq (decide (c<((e.len:Nat):Int))) (
 deref b λf=>
 ec f λg=>
 idx g c 9 λh=>
 ob h 8 λi=>
 aq i (
 R c)<|
 a (IntKind.i64.wrap (c+1)))<|
 R (-1):=bt Tryz.func262 (uz 0x7009081201043046080041001)
instance i34(m:Option Pt)(d:dk):bs (Xn m d) λR=>
 new (Ks.mk aY d) λa=>
 new [.sl ⟨none,0,0⟩,.sl ⟨none,0,0⟩,.sl ⟨none,0,0⟩,zu] λb=>
 de ⟨a,0⟩ λc=>
 join cb (λe=>
 aq (c==1) (
 e (c==1))<|
 aq (c==2) (
 e (c==2))<|
 aq (c==3) (
 e (c==3))<|
 aq (c==4) (
 e (c==4))<|
 aq (c==7) (
 e (c==7))<|
 e (c==9)) λ(f:Bool)=>
 aq f (
 ld aY ⟨a,0⟩ λg=>
 bE (XD m g) λ(h:tb×Int)=>
 st ⟨b,0⟩ (Ks.mk dz h.1)<|
 ld dz ⟨b,0⟩ λi=>
 R (i,h.2))<|
 aq (c==5) (
 bz ⟨a,4⟩ λj=>
 aq (decide (j>4611686018427387904)) (
 st ⟨b,0⟩ [.sl ⟨none,0,0⟩,.sl ⟨none,0,0⟩,.sl ⟨none,0,0⟩,zu]<|
 ld dz ⟨b,0⟩ λk=>
 R (k,3))<|
 bF<|
 bz ⟨a,4⟩ λl=>
 deref m λn=>
 bz n λo=>
 aq (decide (l<o)) (
 st ⟨b,0⟩ [.sl ⟨none,0,0⟩,.sl ⟨none,0,0⟩,.sl ⟨none,0,0⟩,zu]<|
 ld dz ⟨b,0⟩ λp=>
 R (p,4))<|
 bz ⟨a,4⟩ λq=>
 deref m λr=>
 st r [.int .u64 q]<|
 st ⟨b,0⟩ [.sl ⟨none,0,0⟩,.sl ⟨none,0,0⟩,.sl ⟨none,0,0⟩,zu]<|
 ld dz ⟨b,0⟩ λs=>
 R (s,0))<|
 aq (c==6) (
 bE (XE m) λ(t:tb)=>
 st ⟨b,0⟩ (Ks.mk dz t)<|
 ld dz ⟨b,0⟩ λu=>
 R (u,0))<|
 aq (c==8) (
 ld aW ⟨a,6⟩ λv=>
 bO (Wt v) λw=>
 aq (!w) (
 st ⟨b,0⟩ [.sl ⟨none,0,0⟩,.sl ⟨none,0,0⟩,.sl ⟨none,0,0⟩,zu]<|
 ld dz ⟨b,0⟩ λx=>
 R (x,13))<|
 ld aW ⟨a,6⟩ λy=>
 deref m λz=>
 so z 1 (Ks.mk aW y)<|
 st ⟨b,0⟩ [.sl ⟨none,0,0⟩,.sl ⟨none,0,0⟩,.sl ⟨none,0,0⟩,zu]<|
 ld dz ⟨b,0⟩ λA=>
 R (A,0))<|
 st ⟨b,0⟩ [.sl ⟨none,0,0⟩,.sl ⟨none,0,0⟩,.sl ⟨none,0,0⟩,zu]<|
 ld dz ⟨b,0⟩ λB=>
 R (B,12):=bt Tryz.func34 (uz 0x7b003205921a91440c100294302568304124104004705c089044080041001)
instance i61(m:Option Pt)(i:Int):bs (XF m i) λR=>
 new [zi,zi,zu,zu,zu,zu,zu,zu,.bool false,.bool false] λa=>
 join [] (λc=>
 aq ((decide (i<0))||(decide (i≥8))) (
 st ⟨a,0⟩ [zi,zi,zu,zu,zu,zu,zu,zu,.bool false,.bool false]<|
 ld bC ⟨a,0⟩ λd=>
 R (d,false))<|
 deref m λe=>
 d_ (0≤i∧i<8)<|
 pC ⟨e.b,e.o+132+i.toNat*1⟩ λf=>
 aq f.isNone (
 st ⟨a,0⟩ [zi,zi,zu,zu,zu,zu,zu,zu,.bool false,.bool false]<|
 ld bC ⟨a,0⟩ λg=>
 R (g,false))<|
 c ()) λ(h:Unit)=>
 deref m λj=>
 d_ (0≤i∧i<8)<|
 pC ⟨j.b,j.o+132+i.toNat*1⟩ λk=>
 deref k λl=>
 fx l 20 λn=>
 bE (Oc n) λ(p:eN)=>
 st ⟨a,0⟩ (Ks.mk bC p)<|
 ld bC ⟨a,0⟩ λq=>
 R (q,true):=bt Tryz.func61 (uz 0x1c9004001)
instance i62(m:Option Pt)(i:Int):bs (XG m i) λR=>
 new [zu,zu,zu,zi] λa=>
 join [] (λc=>
 aq ((decide (i<0))||(decide (i≥8))) (
 st ⟨a,0⟩ [zu,zu,zu,zi]<|
 ld qn ⟨a,0⟩ λd=>
 R (d,false))<|
 deref m λe=>
 d_ (0≤i∧i<8)<|
 pC ⟨e.b,e.o+132+i.toNat*1⟩ λf=>
 aq f.isNone (
 st ⟨a,0⟩ [zu,zu,zu,zi]<|
 ld qn ⟨a,0⟩ λg=>
 R (g,false))<|
 c ()) λ(h:Unit)=>
 deref m λj=>
 d_ (0≤i∧i<8)<|
 pC ⟨j.b,j.o+132+i.toNat*1⟩ λk=>
 bF<|
 deref k λl=>
 deref k λn=>
 deref k λp=>
 deref k λq=>
 cZ l 21 λr=>
 cZ p 6 λs=>
 cZ q 5 λt=>
 aM (Fh (some ⟨n.b,n.o+7⟩)) λu=>
 jy q 5 t<|
 jy p 6 s<|
 jy l 21 r<|
 bg (Fi k) λv=>
 jy q 5 t<|
 jy p 6 s<|
 jy l 21 r<|
 st ⟨a,0⟩ [.int .u64 r,.int .u64 u,.int .u64 (IntKind.u64.wrap (s-t)),.int .i64 v]<|
 ld qn ⟨a,0⟩ λw=>
 R (w,true):=bt Tryz.func62 (uz 0x205e29845aa9636145719149971e689d4a944c40b0cf28608e2450464e518d946225184946025703040049004001)
instance i91(m:Option Pt)(i:Int):bs (XW m i) λR=>
 new [.sl ⟨none,0,0⟩,.sl ⟨none,0,0⟩,.sl ⟨none,0,0⟩,zu] λa=>
 new [.sl ⟨none,0,0⟩,.sl ⟨none,0,0⟩,.sl ⟨none,0,0⟩,zu] λc=>
 deref m λd=>
 d_ (0≤i∧i<8)<|
 st ⟨d.b,d.o+132+i.toNat*1⟩ [.ptr none]<|
 deref m λe=>
 bE (RQ (some ⟨e.b,e.o+1⟩) i) λ(f:Sl)=>
 st ⟨c,1⟩ [.sl f]<|
 loop ci 0 λg (h:Int)=>
 ec ⟨c,1⟩ λj=>
 aq (decide (h<((j.len:Nat):Int))) (
 deref m λk=>
 bg (TG (some ⟨k.b,k.o+68⟩) i 5) λl=>
 ec ⟨c,2⟩ λn=>
 new [.int .i64 5] λp=>
 mw 1 n ⟨some ⟨p,0⟩,1,1⟩ λq=>
 st ⟨c,2⟩ [.sl q]<|
 g (IntKind.i64.wrap (h+1)))<|
 ld dz ⟨c,0⟩ λr=>
 st ⟨a,0⟩ (Ks.mk dz r)<|
 ld dz ⟨a,0⟩ λs=>
 R s:=bt Tryz.func91 (uz 0x7007081201046046080041001001001001)
instance i59(d:Option Pt):bs (XE d) λR=>
 new [.sl ⟨none,0,0⟩,.sl ⟨none,0,0⟩,.sl ⟨none,0,0⟩,zu] λa=>
 loop [.sl,.int .i64] (⟨none,0,0⟩,0) λc (e:Sl×Int)=>
 aq (decide (e.2<8)) (
 join cu (λf=>
 deref d λg=>
 d_ (0≤e.2∧e.2<8)<|
 pC ⟨g.b,g.o+132+e.2.toNat*1⟩ λh=>
 aq (!h.isNone) (
 deref d λi=>
 d_ (0≤e.2∧e.2<8)<|
 pC ⟨i.b,i.o+132+e.2.toNat*1⟩ λj=>
 deref j λk=>
 fx k 20 λl=>
 deref l λm=>
 cZ m 24 λn=>
 f n)<|
 f 18446744073709551615) λ(p:Int)=>
 new [.int .u64 p] λq=>
 mw 1 e.1 ⟨some ⟨q,0⟩,1,1⟩ λr=>
 c (r,(IntKind.i64.wrap (e.2+1))))<|
 bF<|
 deref d λs=>
 deref d λt=>
 bz t λu=>
 both (
 bE (WE (some ⟨s.b,s.o+1⟩) u e.1) λ(v:gG×Bool)=>
 new [zi,zu,zi,zu,.bool false] λw=>
 co t (Ks.mk cu u)<|
 st ⟨w,0⟩ (Ks.mk aS v.1)<|
 aq v.2 (
 bF<|
 deref d λx=>
 de ⟨w,0⟩ λy=>
 bg (TG (some ⟨x.b,x.o+68⟩) y 1) λz=>
 ld aS ⟨w,0⟩ λA=>
 new [.int .i64 A.1,.int .u64 A.2.1,.int .i64 A.2.2.1,.int .u64 A.2.2.2.1,.bool A.2.2.2.2] λB=>
 st ⟨a,0⟩ [.sl ⟨some ⟨B,0⟩,1,1⟩,.sl ⟨none,0,0⟩,.sl ⟨none,0,0⟩,zu]<|
 ld dz ⟨a,0⟩ λC=>
 R C)<|
 deref d λD=>
 bE (WG (some ⟨D.b,D.o+1⟩)) λ(E:Int×Bool)=>
 aq (!E.2) (
 st ⟨a,0⟩ [.sl ⟨none,0,0⟩,.sl ⟨none,0,0⟩,.sl ⟨none,0,0⟩,zu]<|
 ld dz ⟨a,0⟩ λF=>
 R F)<|
 st ⟨a,0⟩ [.sl ⟨none,0,0⟩,.sl ⟨none,0,0⟩,.sl ⟨none,0,0⟩,.int .u64 (if E.1>1 then E.1 else 1)]<|
 ld dz ⟨a,0⟩ λG=>
 R G)<|
 new [zi,zu,zi,zu,.bool false] λH=>
 co t (Ks.mk cu u)<|
 bE (WE (some ⟨s.b,s.o+1⟩) u e.1) λ(I:gG×Bool)=>
 st ⟨H,0⟩ (Ks.mk aS I.1)<|
 aq I.2 (
 bF<|
 deref d λJ=>
 de ⟨H,0⟩ λK=>
 bg (TG (some ⟨J.b,J.o+68⟩) K 1) λL=>
 ld aS ⟨H,0⟩ λM=>
 new [.int .i64 M.1,.int .u64 M.2.1,.int .i64 M.2.2.1,.int .u64 M.2.2.2.1,.bool M.2.2.2.2] λN=>
 st ⟨a,0⟩ [.sl ⟨some ⟨N,0⟩,1,1⟩,.sl ⟨none,0,0⟩,.sl ⟨none,0,0⟩,zu]<|
 ld dz ⟨a,0⟩ λO=>
 R O)<|
 deref d λQ=>
 bE (WG (some ⟨Q.b,Q.o+1⟩)) λ(S:Int×Bool)=>
 aq (!S.2) (
 st ⟨a,0⟩ [.sl ⟨none,0,0⟩,.sl ⟨none,0,0⟩,.sl ⟨none,0,0⟩,zu]<|
 ld dz ⟨a,0⟩ λT=>
 R T)<|
 st ⟨a,0⟩ [.sl ⟨none,0,0⟩,.sl ⟨none,0,0⟩,.sl ⟨none,0,0⟩,.int .u64 (if S.1>1 then S.1 else 1)]<|
 ld dz ⟨a,0⟩ λU=>
 R U:=bt Tryz.func59 (uz 0x2801e055316a0840460e50009710c104004181b3a668636a40b9502a52585d322e32281b3a668636a32240b9502a52585d322f1850840431e5003940025943040008005044001081201044103086080041001001)
instance i96(d o a:Option Pt):bs (XZ d o a) λR=>
 loop [] () λc (e:Unit)=>
 deref d λf=>
 bz f λg=>
 bE (Oq o g) λ(h:gG×Int)=>
 new [zi,zu,zi,zu,.bool false] λi=>
 st ⟨i,0⟩ (Ks.mk aS h.1)<|
 aq (h.2 !=0) (
 R ())<|
 bF<|
 ld aS ⟨i,0⟩ λj=>
 deref d λk=>
 deref d λl=>
 bz l λm=>
 bE (RU (some ⟨k.b,k.o+1⟩) j m) λ(n:Int×Int)=>
 bF<|
 deref d λp=>
 deref o λq=>
 de q λr=>
 bg (TG (some ⟨p.b,p.o+68⟩) r 0) λs=>
 aq (n.1 !=0) (
 bF<|
 deref d λt=>
 deref o λu=>
 de u λv=>
 bg (TG (some ⟨t.b,t.o+68⟩) v n.1) λw=>
 bF<|
 ld aS ⟨i,0⟩ λx=>
 deref a λy=>
 deref a λz=>
 iS y 1 λA=>
 iS z 2 λB=>
 both (
 new [.int .i64 x.1,.int .u64 x.2.1,.int .i64 x.2.2.1,.int .u64 x.2.2.2.1,.bool x.2.2.2.2] λC=>
 ry z 2 B<|
 ry y 1 A<|
 both (
 mw 5 A ⟨some ⟨C,0⟩,1,1⟩ λD=>
 ry z 2 B<|
 new [.int .i64 n.1] λE=>
 ry z 2 B<|
 ry y 1 A<|
 co ⟨i,0⟩ (Ks.mk aS x)<|
 mw 1 B ⟨some ⟨E,0⟩,1,1⟩ λF=>
 deref a λG=>
 so G 1 [.sl D]<|
 deref a λH=>
 so H 2 [.sl F]<|
 de ⟨i,2⟩ λI=>
 bg (TF o I) λJ=>
 R ())<|
 new [.int .i64 n.1] λK=>
 ry z 2 B<|
 ry y 1 A<|
 co ⟨i,0⟩ (Ks.mk aS x)<|
 mw 5 A ⟨some ⟨C,0⟩,1,1⟩ λL=>
 ry z 2 B<|
 mw 1 B ⟨some ⟨K,0⟩,1,1⟩ λM=>
 deref a λN=>
 so N 1 [.sl L]<|
 deref a λO=>
 so O 2 [.sl M]<|
 de ⟨i,2⟩ λQ=>
 bg (TF o Q) λS=>
 R ())<|
 new [.int .i64 n.1] λT=>
 ry z 2 B<|
 ry y 1 A<|
 co ⟨i,0⟩ (Ks.mk aS x)<|
 new [.int .i64 x.1,.int .u64 x.2.1,.int .i64 x.2.2.1,.int .u64 x.2.2.2.1,.bool x.2.2.2.2] λU=>
 ry z 2 B<|
 ry y 1 A<|
 mw 5 A ⟨some ⟨U,0⟩,1,1⟩ λV=>
 ry z 2 B<|
 mw 1 B ⟨some ⟨T,0⟩,1,1⟩ λX=>
 deref a λY=>
 so Y 1 [.sl V]<|
 deref a λZ=>
 so Z 2 [.sl X]<|
 de ⟨i,2⟩ λa0=>
 bg (TF o a0) λa1=>
 R ())<|
 c ():=bt Tryz.func96 (uz 0x7824815aa3525493962652a9145095f74fa98588a971e678e9a092056a8d49524e58994aa4514257dd3ea61622a78e9a092056a8d49524e58994aa4514257dd3ea78e998588ad71e73052c428320d9422651869420a5081942025cc30606174c8b861421012079410e500096a0c10400605d31ea1850840410e50009600c181b36668c9902e540a9496144c8b871821410049460e50009550c1201001080182)
instance i58(d:Option Pt)(o:dk):bs (XD d o) λR=>
 new (Ks.mk aY o) λa=>
 new [.sl ⟨none,0,0⟩,.sl ⟨none,0,0⟩,.sl ⟨none,0,0⟩,zu] λc=>
 join [] (λe=>
 de ⟨a,1⟩ λf=>
 aq (decide (f<0)) (
 st ⟨c,0⟩ [.sl ⟨none,0,0⟩,.sl ⟨none,0,0⟩,.sl ⟨none,0,0⟩,zu]<|
 ld dz ⟨c,0⟩ λg=>
 R (g,8))<|
 de ⟨a,1⟩ λh=>
 aq (decide (h≥8)) (
 st ⟨c,0⟩ [.sl ⟨none,0,0⟩,.sl ⟨none,0,0⟩,.sl ⟨none,0,0⟩,zu]<|
 ld dz ⟨c,0⟩ λi=>
 R (i,8))<|
 e ()) λ(j:Unit)=>
 bF<|
 de ⟨a,1⟩ λk=>
 deref d λl=>
 d_ (0≤k∧k<8)<|
 pC ⟨l.b,l.o+132+k.toNat*1⟩ λm=>
 de ⟨a,0⟩ λn=>
 aq (n==1) (
 aq (!m.isNone) (
 st ⟨c,0⟩ [.sl ⟨none,0,0⟩,.sl ⟨none,0,0⟩,.sl ⟨none,0,0⟩,zu]<|
 ld dz ⟨c,0⟩ λp=>
 R (p,9))<|
 bF<|
 de ⟨a,1⟩ λq=>
 de ⟨a,1⟩ λr=>
 deref d λs=>
 deref d λt=>
 lo aW s 1 λ(u:cP)=>
 ko (XV r u) λv=>
 co ⟨a,1⟩ (Ks.mk ci q)<|
 d_ (0≤q∧q<8)<|
 st ⟨t.b,t.o+132+q.toNat*1⟩ [.ptr v]<|
 st ⟨c,0⟩ [.sl ⟨none,0,0⟩,.sl ⟨none,0,0⟩,.sl ⟨none,0,0⟩,zu]<|
 ld dz ⟨c,0⟩ λw=>
 R (w,0))<|
 aq m.isNone (
 st ⟨c,0⟩ [.sl ⟨none,0,0⟩,.sl ⟨none,0,0⟩,.sl ⟨none,0,0⟩,zu]<|
 ld dz ⟨c,0⟩ λx=>
 R (x,10))<|
 de ⟨a,0⟩ λy=>
 aq (y==9) (
 de ⟨a,1⟩ λz=>
 bE (XW d z) λ(A:tb)=>
 st ⟨c,0⟩ (Ks.mk dz A)<|
 ld dz ⟨c,0⟩ λB=>
 R (B,0))<|
 join ci (λC=>
 de ⟨a,0⟩ λD=>
 aq (D==2) (
 bF<|
 deref m λE=>
 de ⟨a,2⟩ λF=>
 bg (WD (some ⟨E.b,E.o+3⟩) F) λG=>
 C G)<|
 aq (D==3) (
 bF<|
 deref d λH=>
 bz ⟨a,3⟩ λI=>
 ec ⟨a,5⟩ λJ=>
 bz H λK=>
 bg (XX m K I J) λL=>
 C L)<|
 aq (D==4) (
 deref d λM=>
 bz M λN=>
 bS (XY m N) λO=>
 C 0)<|
 de ⟨a,2⟩ λQ=>
 bg (TF m Q) λS=>
 C S) λ(T:Int)=>
 new [.sl ⟨none,0,0⟩,.sl ⟨none,0,0⟩,.sl ⟨none,0,0⟩,zu] λU=>
 join [] (λV=>
 aq (T==0) (
 bS (XZ d m (some ⟨U,0⟩)) λX=>
 V ())<|
 V ()) λ(Y:Unit)=>
 ld dz ⟨U,0⟩ λZ=>
 st ⟨c,0⟩ (Ks.mk dz Z)<|
 ld dz ⟨c,0⟩ λa0=>
 R (a0,T):=bt Tryz.func58 (uz 0x1c800400122068a9995d5449c840c81820c794316500194602523f0c10018161a655316a0840430e5180940fc304004200104704400124124100781e6cea9d4cda5a54aa8920c1d12e51840801650c394306500095e0c12410400418171e61954c5a444439420c1940025443049004001)
instance i29(d:cP):bs (Wt d) λR=>
 new (Ks.mk aW d) λa=>
 de ⟨a,0⟩ λb=>
 aq (decide (b≥100)) (
 de ⟨a,0⟩ λc=>
 aq (decide (c≤65536)) (
 de ⟨a,1⟩ λe=>
 aq (decide (e≥100)) (
 de ⟨a,1⟩ λf=>
 aq (decide (f≤65536)) (
 de ⟨a,2⟩ λg=>
 aq (decide (g≥1)) (
 de ⟨a,2⟩ λh=>
 aq (decide (h≤512)) (
 de ⟨a,3⟩ λi=>
 aq (decide (i≥1)) (
 de ⟨a,3⟩ λj=>
 aq (decide (j≤512)) (
 bz ⟨a,4⟩ λk=>
 aq (decide (k≤4611686018427387904)) (
 de ⟨a,7⟩ λl=>
 aq (decide (l≥1)) (
 de ⟨a,7⟩ λm=>
 aq (decide (m≤1073741824)) (
 de ⟨a,8⟩ λn=>
 aq (decide (n≥100)) (
 de ⟨a,8⟩ λo=>
 R (decide (o≤9000)))<|
 R false)<|
 R false)<|
 R false)<|
 R false)<|
 R false)<|
 R false)<|
 R false)<|
 R false)<|
 R false)<|
 R false)<|
 R false)<|
 R false:=bt Tryz.func29 (uz 8)
instance i33(c:cP):bs (Xm c) λR=>
 new (Ks.mk aW c) λa=>
 ld aW ⟨a,0⟩ λb=>
 bO (Wt b) λd=>
 aq (!d) (
 R (none,13))<|
 ld aW ⟨a,0⟩ λe=>
 new [zu,.int .i64 e.1,.int .i64 e.2.1,.int .i64 e.2.2.1,.int .i64 e.2.2.2.1,.int .u64 e.2.2.2.2.1,.int .u64 e.2.2.2.2.2.1,.bool e.2.2.2.2.2.2.1,.int .i64 e.2.2.2.2.2.2.2.1,.int .i64 e.2.2.2.2.2.2.2.2,zi,zi,zi,zu,zu,.sl ⟨none,0,0⟩,zi,zi,zi,zu,zu,.sl ⟨none,0,0⟩,zi,zi,zi,zu,zu,.sl ⟨none,0,0⟩,zi,zi,zi,zu,zu,.sl ⟨none,0,0⟩,zi,zi,zi,zu,zu,.sl ⟨none,0,0⟩,zi,zi,zi,zu,zu,.sl ⟨none,0,0⟩,zi,zi,zi,zu,zu,.sl ⟨none,0,0⟩,zi,zi,zi,zu,zu,.sl ⟨none,0,0⟩,.bool false,.bool false,.bool false,.bool false,.bool false,.bool false,.bool false,.bool false,.sl ⟨none,0,0⟩,.sl ⟨none,0,0⟩,zi,zi,zi,zi,zi,zi,zi,zi,zi,zi,zi,zi,zi,zi,zi,zi,zi,zi,zi,zi,zi,zi,zi,zi,zi,zi,zi,zi,zi,zi,zi,zi,zi,zi,zi,zi,zi,zi,zi,zi,zi,zi,zi,zi,zi,zi,zi,zi,zi,zi,zi,zi,zi,zi,zi,zi,zi,zi,zi,zi,zi,zi,zi,zi,.ptr none,.ptr none,.ptr none,.ptr none,.ptr none,.ptr none,.ptr none,.ptr none] λf=>
 R ((some ⟨f,0⟩),0):=bt Tryz.func33 (uz 0xa)
instance i90(id:Int)(c:cP):bs (XV id c) λR=>
 new (Ks.mk aW c) λa=>
 bF<|
 de ⟨a,8⟩ λb=>
 de ⟨a,7⟩ λd=>
 de ⟨a,8⟩ λe=>
 ko (RP (IntKind.u64.wrap (if e>0 then e else 0))) λf=>
 co ⟨a,7⟩ (Ks.mk ci d)<|
 co ⟨a,8⟩ (Ks.mk ci b)<|
 new [.int .i64 id,.int .i64 b,.int .i64 d,.int .i64 1073741824,zu,zu,zu,.sl ⟨none,0,0⟩,zu,zu,zu,zu,zu,.bool false,zu,zu,zu,zu,zu,.bool false,.ptr f,zu,zu] λg=>
 R (some ⟨g,0⟩):=bt Tryz.func90 (uz 0x2074d99c3263ca24714bd4e2a62481c40831a51610c39430650009440c1001)
instance i15:bs Wp λR=>
 new [zi,zi,zi,zi,zu,zu,.bool false,zi,zi] λa=>
 st ⟨a,0⟩ [.int .i64 3000,.int .i64 15000,.int .i64 100,.int .i64 50,.int .u64 10000000000,zu,.bool false,.int .i64 100000,.int .i64 1000]<|
 ld aW ⟨a,0⟩ λb=>
 R b:=bt Tryz.func15 (uz 8)
instance YU(q:Option Pt)(i:Int):bs (RQ q i) λR=>
 join [] (λa=>
 aq ((decide (i<0))||(decide (i≥8))) (
 R ⟨none,0,0⟩)<|
 deref q λc=>
 d_ (0≤i∧i<8)<|
 qt ⟨c.b,c.o+57+i.toNat*1⟩ λd=>
 aq (!d) (
 R ⟨none,0,0⟩)<|
 a ()) λ(e:Unit)=>
 deref q λf=>
 d_ (0≤i∧i<8)<|
 ec ⟨f.b,f.o+9+i.toNat*6+5⟩ λg=>
 deref q λh=>
 bO (OE (some ⟨h.b,h.o+65⟩) i) λj=>
 bF<|
 deref q λk=>
 deref q λl=>
 d_ (0≤i∧i<8)<|
 st ⟨k.b,k.o+57+i.toNat*1⟩ [.bool false]<|
 d_ (0≤i∧i<8)<|
 st ⟨l.b,l.o+9+i.toNat*6⟩ [zi,zi,zi,zu,zu,.sl ⟨none,0,0⟩]<|
 R g:=bt Tryz.func138 (uz 0x783bd4cabad0ba78226df21e9e4a9761a5cc99711651210439400a5040003040040049004001)
instance i97(d:Option Pt)(o:Int)(a:Sl):bs (WE d o a) λR=>
 new [zi,zu,zi,zu,.bool false] λc=>
 join [] (λe=>
 bg (Kt d) λf=>
 loop ci f λg (h:Int)=>
 join [] (λi=>
 aq (decide (h≥0)) (
 deref d λj=>
 d_ (0≤h∧h<8)<|
 ld dx ⟨j.b,j.o+9+h.toNat*6⟩ λk=>
 aM (Fm k) λl=>
 aq (decide (l≤o)) (
 i ())<|
 e ())<|
 e ()) λ(m:Unit)=>
 bS (Fo d h 2) λn=>
 bg (Kt d) λp=>
 g p) λ(q:Unit)=>
 loop [] () λr (s:Unit)=>
 deref d λt=>
 bE (RV (some ⟨t.b,t.o+65⟩)) λ(u:Int×Bool×Bool)=>
 aq (!u.2.2) (
 st ⟨c,0⟩ [zi,zu,zi,zu,.bool false]<|
 ld aS ⟨c,0⟩ λv=>
 R (v,false))<|
 deref d λw=>
 d_ (0≤u.1∧u.1<8)<|
 deref (some ⟨w.b,w.o+9+u.1.toNat*6⟩) λx=>
 gw x 1 λy=>
 aq (decide (y≤0)) (
 bF<|
 deref (some ⟨w.b,w.o+9+u.1.toNat*6⟩) λz=>
 deref d λA=>
 gw z 1 λB=>
 de A λC=>
 deref (some ⟨w.b,w.o+9+u.1.toNat*6⟩) λD=>
 so D 1 [.int .i64 (IntKind.i64.wrap (B+C))]<|
 bS (Fo d u.1 2) λE=>
 r ())<|
 join cb (λF=>
 deref (some ⟨w.b,w.o+9+u.1.toNat*6⟩) λG=>
 iS G 5 λH=>
 aq ((((H.len:Nat):Int)==0)&&u.2.1) (
 deref d λI=>
 iS I 66 λJ=>
 F (decide (((J.len:Nat):Int)>0)))<|
 F false) λ(K:Bool)=>
 aq K (
 bS (Fo d u.1 2) λL=>
 r ())<|
 deref (some ⟨w.b,w.o+9+u.1.toNat*6⟩) λM=>
 iS M 5 λN=>
 aq (((N.len:Nat):Int)==0) (
 bS (Fo d u.1 0) λO=>
 deref (some ⟨w.b,w.o+9+u.1.toNat*6⟩) λQ=>
 so Q 4 [.int .u64 o]<|
 r ())<|
 deref (some ⟨w.b,w.o+9+u.1.toNat*6⟩) λS=>
 ld dx S λT=>
 aM (Fm T) λU=>
 aq (decide (U>o)) (
 bS (Fo d u.1 3) λV=>
 r ())<|
 deref (some ⟨w.b,w.o+9+u.1.toNat*6⟩) λX=>
 iS X 5 λY=>
 idx Y 0 5 λZ=>
 ld aS Z λa0=>
 new [zi,zu,zi,zu,.bool false] λa1=>
 st ⟨a1,0⟩ (Ks.mk aS a0)<|
 deref (some ⟨w.b,w.o+9+u.1.toNat*6⟩) λa2=>
 iS a2 5 λa3=>
 EF a3 (some 1) none none 5 λa4=>
 mw 5 ⟨none,0,0⟩ a4 λa5=>
 deref (some ⟨w.b,w.o+9+u.1.toNat*6⟩) λa6=>
 so a6 5 [.sl a5]<|
 bF<|
 deref (some ⟨w.b,w.o+9+u.1.toNat*6⟩) λa7=>
 de ⟨a1,2⟩ λa8=>
 gw a7 1 λa9=>
 deref (some ⟨w.b,w.o+9+u.1.toNat*6⟩) λb0=>
 so b0 1 [.int .i64 (IntKind.i64.wrap (a9-a8))]<|
 bF<|
 de ⟨a1,2⟩ λb1=>
 deref d λb2=>
 cZ b2 5 λb3=>
 aM (RX a u.1) λb4=>
 jy b2 5 b3<|
 co ⟨a1,2⟩ (Ks.mk ci b1)<|
 aM (RW b4 b3) λb5=>
 co ⟨a1,2⟩ (Ks.mk ci b1)<|
 aM (Ku b1 b5) λb6=>
 aM (pO o b6) λb7=>
 deref (some ⟨w.b,w.o+9+u.1.toNat*6⟩) λb8=>
 so b8 3 [.int .u64 b7]<|
 ld aS ⟨a1,0⟩ λb9=>
 st ⟨c,0⟩ (Ks.mk aS b9)<|
 ld aS ⟨c,0⟩ λc0=>
 R (c0,true):=bt Tryz.func97 (uz 0x78217d1a9044f95e48ea9d50da9c5cca96546a8b28920300794916508494d0a504194c0252ff0c181a60aa89448957547a440c608d16530194c02507f0c10010010010011c1001001002d3f04402075b36a3112e56952a92481070c608016530194c0258ff0c1040042001241001080182000081200101201182001004001)
instance Y2(d:Option Pt)(o:gG)(a:Int):bs (RU d o a) λR=>
 new (Ks.mk aS o) λc=>
 join [] (λe=>
 de ⟨c,0⟩ λf=>
 aq (decide (f<0)) (
 R (0,8))<|
 de ⟨c,0⟩ λg=>
 aq (decide (g≥8)) (
 R (0,8))<|
 e ()) λ(h:Unit)=>
 join [] (λi=>
 de ⟨c,2⟩ λj=>
 aq (decide (j<1)) (
 R (0,1))<|
 de ⟨c,2⟩ λk=>
 aq (decide (k>65536)) (
 R (0,1))<|
 i ()) λ(l:Unit)=>
 bS (SJ d a) λm=>
 bF<|
 de ⟨c,0⟩ λn=>
 deref d λp=>
 d_ (0≤n∧n<8)<|
 deref d λq=>
 cZ q 4 λr=>
 aM (pO a r) λs=>
 join [] (λt=>
 bF<|
 deref d λu=>
 gw u 2 λv=>
 bg (Wx d) λw=>
 FO u 2 v<|
 aq (decide (w≥v)) (
 R (2,0))<|
 bF<|
 deref (some ⟨p.b,p.o+9+n.toNat*6⟩) λx=>
 deref d λy=>
 iS x 5 λz=>
 gw y 3 λA=>
 aq (decide (((z.len:Nat):Int)≥A)) (
 R (3,0))<|
 bz ⟨c,3⟩ λB=>
 aq (decide (B>s)) (
 deref d λC=>
 ob C 6 λD=>
 aq D (
 R (4,0))<|
 t ())<|
 t ()) λ(E:Unit)=>
 bz ⟨c,3⟩ λF=>
 st ⟨c,3⟩ [.int .u64 (if s<F then s else F)]<|
 join [] (λG=>
 bF<|
 de ⟨c,0⟩ λH=>
 deref d λI=>
 d_ (0≤H∧H<8)<|
 qt ⟨I.b,I.o+57+H.toNat*1⟩ λJ=>
 aq (!J) (
 bF<|
 de ⟨c,0⟩ λK=>
 deref d λL=>
 d_ (0≤K∧K<8)<|
 st ⟨L.b,L.o+57+K.toNat*1⟩ [.bool true]<|
 bF<|
 de ⟨c,0⟩ λM=>
 deref d λN=>
 gw N 1 λO=>
 deref (some ⟨p.b,p.o+9+n.toNat*6⟩) λQ=>
 st Q [.int .i64 M,.int .i64 O,zi,zu,zu,.sl ⟨none,0,0⟩]<|
 G ())<|
 join cb (λS=>
 deref (some ⟨p.b,p.o+9+n.toNat*6⟩) λT=>
 gw T 2 λU=>
 aq (U==0) (
 deref (some ⟨p.b,p.o+9+n.toNat*6⟩) λV=>
 cZ V 4 λX=>
 aM (pO X 40000000) λY=>
 S (decide (Y≤a)))<|
 S false) λ(Z:Bool)=>
 aq Z (
 bF<|
 deref (some ⟨p.b,p.o+9+n.toNat*6⟩) λa0=>
 deref d λa1=>
 gw a0 1 λa2=>
 de a1 λa3=>
 deref (some ⟨p.b,p.o+9+n.toNat*6⟩) λa4=>
 so a4 1 [.int .i64 (if a3>a2 then a3 else a2)]<|
 G ())<|
 G ()) λ(a5:Unit)=>
 bF<|
 ld aS ⟨c,0⟩ λa6=>
 deref (some ⟨p.b,p.o+9+n.toNat*6⟩) λa7=>
 iS a7 5 λa8=>
 both (
 mw 5 ⟨none,0,0⟩ a8 λa9=>
 co ⟨c,0⟩ (Ks.mk aS a6)<|
 new [.int .i64 a6.1,.int .u64 a6.2.1,.int .i64 a6.2.2.1,.int .u64 a6.2.2.2.1,.bool a6.2.2.2.2] λb0=>
 ry a7 5 a8<|
 mw 5 a9 ⟨some ⟨b0,0⟩,1,1⟩ λb1=>
 deref (some ⟨p.b,p.o+9+n.toNat*6⟩) λb2=>
 so b2 5 [.sl b1]<|
 deref (some ⟨p.b,p.o+9+n.toNat*6⟩) λb3=>
 gw b3 2 λb4=>
 aq (b4==0) (
 deref (some ⟨p.b,p.o+9+n.toNat*6⟩) λb5=>
 so b5 2 [.int .i64 1]<|
 deref (some ⟨p.b,p.o+9+n.toNat*6⟩) λb6=>
 so b6 4 [zu]<|
 bF<|
 deref d λb7=>
 de ⟨c,0⟩ λb8=>
 bg (KA (some ⟨b7.b,b7.o+65⟩) b8 true) λb9=>
 R (0,0))<|
 R (0,0))<|
 new [.int .i64 a6.1,.int .u64 a6.2.1,.int .i64 a6.2.2.1,.int .u64 a6.2.2.2.1,.bool a6.2.2.2.2] λc0=>
 ry a7 5 a8<|
 mw 5 ⟨none,0,0⟩ a8 λc1=>
 co ⟨c,0⟩ (Ks.mk aS a6)<|
 mw 5 c1 ⟨some ⟨c0,0⟩,1,1⟩ λc2=>
 deref (some ⟨p.b,p.o+9+n.toNat*6⟩) λc3=>
 so c3 5 [.sl c2]<|
 deref (some ⟨p.b,p.o+9+n.toNat*6⟩) λc4=>
 gw c4 2 λc5=>
 aq (c5==0) (
 deref (some ⟨p.b,p.o+9+n.toNat*6⟩) λc6=>
 so c6 2 [.int .i64 1]<|
 deref (some ⟨p.b,p.o+9+n.toNat*6⟩) λc7=>
 so c7 4 [zu]<|
 bF<|
 deref d λc8=>
 de ⟨c,0⟩ λc9=>
 bg (KA (some ⟨c8.b,c8.o+65⟩) c9 true) λd0=>
 R (0,0))<|
 R (0,0):=bt Tryz.func146 (uz 0x702055316a0840440e500095afff0c00410010606d92ea29126561622a5459971e681b64ba8a449958588a971e65459c40c2106948065200944fff0c102075b36a3112e56952a92481070c6080165201948025dbf0c1002dbf04481a64aa912656132291c61440800e51019480257bf0e05869954c5a4444394210194002563f0c10601c65531691110e5084065000950fc304010005381b2e66952a92442031c2181005948025cc3047060608997487a51066185103002940025a830420040018161a65531691110e508406500095c0c1001240109004001)
instance i63(q:Option Pt)(i:Int):bs (XH q i) λR=>
 new [zi,zi,zi,zu,zu,.sl ⟨none,0,0⟩] λa=>
 join [] (λc=>
 aq ((decide (i<0))||(decide (i≥8))) (
 st ⟨a,0⟩ [zi,zi,zi,zu,zu,.sl ⟨none,0,0⟩]<|
 ld dx ⟨a,0⟩ λd=>
 R (d,false))<|
 deref q λe=>
 d_ (0≤i∧i<8)<|
 qt ⟨e.b,e.o+57+i.toNat*1⟩ λf=>
 aq (!f) (
 st ⟨a,0⟩ [zi,zi,zi,zu,zu,.sl ⟨none,0,0⟩]<|
 ld dx ⟨a,0⟩ λg=>
 R (g,false))<|
 c ()) λ(h:Unit)=>
 deref q λj=>
 d_ (0≤i∧i<8)<|
 ld dx ⟨j.b,j.o+9+i.toNat*6⟩ λk=>
 new [zi,zi,zi,zu,zu,.sl ⟨none,0,0⟩] λl=>
 st ⟨l,0⟩ (Ks.mk dx k)<|
 ec ⟨l,5⟩ λm=>
 mw 5 ⟨none,0,0⟩ m λn=>
 st ⟨l,5⟩ [.sl n]<|
 ld dx ⟨l,0⟩ λp=>
 st ⟨a,0⟩ (Ks.mk dx p)<|
 ld dx ⟨a,0⟩ λr=>
 R (r,true):=bt Tryz.func63 (uz 0x2c9004001)
instance i60(q:Option Pt):bs (Wx q) λR=>
 loop [.int .i64,.int .i64] (0,0) λa (c:Int×Int)=>
 aq (decide (c.2<8)) (
 deref q λd=>
 d_ (0≤c.2∧c.2<8)<|
 ec ⟨d.b,d.o+9+c.2.toNat*6+5⟩ λe=>
 a ((IntKind.i64.wrap (c.1+((e.len:Nat):Int))),(IntKind.i64.wrap (c.2+1))))<|
 R c.1:=bt Tryz.func60 (uz 0x7000081201044043086080041001001)
instance i99(q:Option Pt):bs (WG q) λR=>
 bg (Kt q) λa=>
 aq (decide (a<0)) (
 R (0,false))<|
 deref q λc=>
 d_ (0≤a∧a<8)<|
 ld dx ⟨c.b,c.o+9+a.toNat*6⟩ λd=>
 aM (Fm d) λe=>
 R (e,true):=bt Tryz.func99 (uz 0x17)
end Go.X
