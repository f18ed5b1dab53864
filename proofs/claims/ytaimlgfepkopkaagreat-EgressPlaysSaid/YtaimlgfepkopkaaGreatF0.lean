/- What each function computes, as a weakest precondition; the kernel sees that the code says so. -/
import Derived.Test.YtaimlgfepkopkaaGreatG
set_option linter.all false
namespace Go.X
open Go.Proofs
instance aac(a:Option Pt)(i:Int):bs (SL a i) λR=>
 aq a.isNone (
 R 2)<|
 join cb (λb=>
 aq (decide (i<0)) (
 b true)<|
 deref a λc=>
 gw c 2 λd=>
 b (decide (i≥d))) λ(e:Bool)=>
 aq e (
 R 1)<|
 bO (Ta a i) λf=>
 aq (!f) (
 R 7)<|
 deref a λg=>
 ec g λh=>
 idx h i 1 λj=>
 st j [.bool false]<|
 deref a λk=>
 iS k 1 λl=>
 new [.int .i64 i] λm=>
 mw 1 l ⟨some ⟨m,0⟩,1,1⟩ λn=>
 deref a λo=>
 so o 1 [.sl n]<|
 R 0:=bt Tryz.func220 (uz 0xb4c00880441c1001081001)
instance Zj(d:Option Pt):bs (Oy d) λR=>
 aq d.isNone (
 R (0,2))<|
 deref d λa=>
 iS a 1 λb=>
 aq (decide (((b.len:Nat):Int)>0)) (
 deref d λc=>
 iS c 1 λe=>
 idx e (IntKind.i64.wrap (((b.len:Nat):Int)-1)) 1 λf=>
 de f λg=>
 deref d λh=>
 iS h 1 λi=>
 EF i none (some (IntKind.i64.wrap (((b.len:Nat):Int)-1))) none 1 λj=>
 deref d λk=>
 so k 1 [.sl j]<|
 deref d λl=>
 ec l λm=>
 idx m g 1 λn=>
 st n [.bool true]<|
 R (g,0))<|
 bF<|
 deref d λo=>
 deref d λp=>
 ec o λq=>
 gw p 2 λr=>
 aq (decide (((q.len:Nat):Int)≥r)) (
 R (0,5))<|
 deref d λs=>
 ec s λt=>
 new [.bool true] λu=>
 mw 1 t ⟨some ⟨u,0⟩,1,1⟩ λv=>
 deref d λw=>
 st w [.sl v]<|
 deref d λx=>
 ec x λy=>
 R ((IntKind.i64.wrap (((y.len:Nat):Int)-1)),0):=bt Tryz.func164 (uz 0x20c819549a442031c21810059400259c3041781241001)
instance aaT(a:Option Pt)(i:Int):bs (Ta a i) λR=>
 aq ((!a.isNone)&&(decide (i≥0))) (
 deref a λb=>
 ec b λc=>
 aq (decide (i<((c.len:Nat):Int))) (
 deref a λd=>
 ec d λe=>
 idx e i 1 λf=>
 qt f λg=>
 R g)<|
 R false)<|
 R false:=bt Tryz.func264 (uz 8)
instance Ym(n:Int):bs (Ry n) λR=>
 new [.sl ⟨none,0,0⟩,.sl ⟨none,0,0⟩,.int .i64 (if 4096<(if 0>n then 0 else n)then 4096 else(if 0>n then 0 else n))] λa=>
 R (some ⟨a,0⟩):=bt Tryz.func104 (uz 8)
instance i84(m:Option Pt):bs (IJ m) λR=>
 new [zi,zi,zu,zu,zu,zu,zu,zu,.bool false,.bool false] λa=>
 aq m.isNone (
 st ⟨a,0⟩ [zi,zi,zu,zu,zu,zu,zu,zu,.bool false,.bool false]<|
 ld bC ⟨a,0⟩ λb=>
 R b)<|
 bF<|
 deref m λc=>
 deref m λd=>
 deref m λe=>
 deref m λf=>
 deref m λg=>
 deref m λh=>
 deref m λi=>
 gw c 7 λj=>
 cZ d 8 λk=>
 cZ e 9 λl=>
 fx f 4 λn=>
 fx g 1 λo=>
 fx h 3 λp=>
 fx i 2 λq=>
 aM (Fj m) λr=>
 kY i 2 q<|
 kY h 3 p<|
 kY g 1 o<|
 kY f 4 n<|
 jy e 9 l<|
 jy d 8 k<|
 FO c 7 j<|
 aM (Fk n) λs=>
 kY i 2 q<|
 kY h 3 p<|
 kY g 1 o<|
 jy e 9 l<|
 jy d 8 k<|
 FO c 7 j<|
 aM (Ol m) λt=>
 kY i 2 q<|
 kY h 3 p<|
 kY g 1 o<|
 jy e 9 l<|
 jy d 8 k<|
 FO c 7 j<|
 aM (Om o) λu=>
 kY i 2 q<|
 kY h 3 p<|
 jy e 9 l<|
 jy d 8 k<|
 FO c 7 j<|
 bg (RO p) λv=>
 kY i 2 q<|
 jy e 9 l<|
 jy d 8 k<|
 FO c 7 j<|
 bO (Dq q) λw=>
 jy e 9 l<|
 jy d 8 k<|
 FO c 7 j<|
 bO (Kp m) λx=>
 jy e 9 l<|
 jy d 8 k<|
 FO c 7 j<|
 st ⟨a,0⟩ [.int .i64 j,.int .i64 v,.int .u64 k,.int .u64 l,.int .u64 r,.int .u64 s,.int .u64 t,.int .u64 u,.bool w,.bool x]<|
 ld bC ⟨a,0⟩ λy=>
 R y:=bt Tryz.func84 (uz 0x20dc29eadb4bea96379c34998aff5966ce39ae7a6a599a452689299d366ca295d6112c70f186571740a182c2095b58f24504092501f9406a50159404e500e9403250089401250009450c1241001)
instance aaq(d:Option Pt)(o:eI)(a:Int):bs (OK d o a) λR=>
 new (Ks.mk aO o) λb=>
 new [zi,zi,zu,zu,zu,zu,zu,zu,.bool false,.bool false] λc=>
 aq d.isNone (
 st ⟨c,0⟩ [zi,zi,zu,zu,zu,zu,zu,zu,.bool false,.bool false]<|
 ld bC ⟨c,0⟩ λe=>
 R e)<|
 bF<|
 ld aO ⟨b,0⟩ λf=>
 deref d λg=>
 fx g 1 λh=>
 bO (Tg h f) λi=>
 bF<|
 ld aO ⟨b,0⟩ λj=>
 deref d λk=>
 fx k 5 λl=>
 bS (Th l i j) λm=>
 ld aO ⟨b,0⟩ λn=>
 bS (Ti d n) λp=>
 join [] (λq=>
 join cb (λr=>
 deref d λs=>
 gw s 7 λt=>
 aq (t==2) (
 bO (Kp d) λu=>
 r (!u))<|
 r false) λ(v:Bool)=>
 aq v (
 bF<|
 deref d λw=>
 bz ⟨b,0⟩ λx=>
 deref d λy=>
 bz ⟨b,6⟩ λz=>
 bz ⟨b,7⟩ λA=>
 fx w 3 λB=>
 fx y 4 λC=>
 aM (Fk C) λD=>
 kY w 3 B<|
 co ⟨b,7⟩ (Ks.mk cu A)<|
 co ⟨b,6⟩ (Ks.mk cu z)<|
 co ⟨b,0⟩ (Ks.mk cu x)<|
 aM (KV d 320) λE=>
 kY w 3 B<|
 co ⟨b,7⟩ (Ks.mk cu A)<|
 co ⟨b,6⟩ (Ks.mk cu z)<|
 co ⟨b,0⟩ (Ks.mk cu x)<|
 aM (KV d 256) λF=>
 kY w 3 B<|
 co ⟨b,7⟩ (Ks.mk cu A)<|
 co ⟨b,6⟩ (Ks.mk cu z)<|
 co ⟨b,0⟩ (Ks.mk cu x)<|
 bO (Tj B x D z A E F) λG=>
 q ())<|
 q ()) λ(H:Unit)=>
 bF<|
 deref d λI=>
 qt ⟨b,8⟩ λJ=>
 deref d λK=>
 fx I 2 λL=>
 pC K λM=>
 aM (Kz M) λN=>
 kY I 2 L<|
 co ⟨b,8⟩ (Ks.mk cb J)<|
 bO (Tk L i J N) λO=>
 ld aO ⟨b,0⟩ λQ=>
 bS (Tl d Q) λS=>
 ld aO ⟨b,0⟩ λT=>
 bS (Tm d T i) λU=>
 bS (Tn d) λV=>
 ld aO ⟨b,0⟩ λX=>
 bS (To d X i) λY=>
 ld aO ⟨b,0⟩ λZ=>
 bS (Tp d Z a) λa0=>
 bE (IJ d) λ(a1:eN)=>
 st ⟨c,0⟩ (Ks.mk bC a1)<|
 ld bC ⟨c,0⟩ λa2=>
 R a2:=bt Tryz.func235 (uz 0x5207175543326cb98a0c90881810079441651c4940025e0304082385f75b5944fe8929a042668a9890c808e3071410119403e510d9442e50069441250009640c1002901100100060595506b830811059471250009500c18161a63ce16a0c204412500094a0c1241001)
instance abz(m:Option Pt):bs (O1 m) λR=>
 bF<|
 deref m λa=>
 deref m λb=>
 cZ a 9 λc=>
 cZ b 10 λd=>
 deref m λe=>
 so e 9 [.int .u64 (if d>c then d else c)]<|
 deref m λf=>
 so f 10 [zu]<|
 R ():=bt Tryz.func306 (uz 0x81f4263cf9433a538c36a3022e52c72a92452041c30069400a5001940025043)
instance aba(m:Option Pt)(gain:Int):bs (KV m gain) λR=>
 bF<|
 deref m λa=>
 fx a 4 λb=>
 aM (Fj m) λc=>
 kY a 4 b<|
 aM (Fk b) λd=>
 aM (OZ c d gain) λe=>
 R e:=bt Tryz.func282 (uz 0x80d26630b188b8a1a61419851030479400a50009440c1001)
instance YL(m:Option Pt):bs (Fj m) λR=>
 deref m λa=>
 fx a 5 λb=>
 bE (OC b) λ(c:Int×Bool)=>
 aq c.2 (
 R c.1)<|
 deref m λd=>
 pC d λe=>
 aM (Kz e) λf=>
 R f:=bt Tryz.func129 (uz 0x1f)
instance abw(m:Option Pt)(ao:Int):bs (O0 m ao) λR=>
 deref m λa=>
 so a 7 [.int .i64 2]<|
 deref m λb=>
 fx b 3 λc=>
 bS (OY c ao 2) λd=>
 R ():=bt Tryz.func303 (uz 7)
instance aby(m:Option Pt):bs (KX m) λR=>
 deref m λa=>
 cZ a 6 λb=>
 R (IntKind.u64.wrap (4*b)):=bt Tryz.func305 (uz 8)
instance YN(m:Option Pt):bs (Ol m) λR=>
 deref m λa=>
 gw a 7 λb=>
 aq (b==0) (
 R 739)<|
 deref m λc=>
 gw c 7 λd=>
 aq (d==1) (
 R 88)<|
 join cb (λe=>
 deref m λf=>
 gw f 7 λg=>
 aq (g==2) (
 bO (Kp m) λh=>
 e (!h))<|
 e false) λ(i:Bool)=>
 aq i (
 deref m λj=>
 fx j 3 λk=>
 aM (Sr k) λl=>
 R l)<|
 R 256:=bt Tryz.func131 (uz 0x730008f0441c10011c1001081001)
instance abd(m:Option Pt)(s:eI)(start:Bool):bs (Tm m s start) λR=>
 new (Ks.mk aO s) λa=>
 bF<|
 deref m λb=>
 bz ⟨a,0⟩ λc=>
 bz ⟨a,4⟩ λd=>
 bz ⟨a,7⟩ λe=>
 fx b 4 λf=>
 aM (KX m) λg=>
 kY b 4 f<|
 co ⟨a,7⟩ (Ks.mk cu e)<|
 co ⟨a,4⟩ (Ks.mk cu d)<|
 co ⟨a,0⟩ (Ks.mk cu c)<|
 bE (Tx f c d start e g) λ(h:Bool×Bool)=>
 aq h.1 (
 bF<|
 deref m λi=>
 deref m λj=>
 cZ i 10 λk=>
 cZ j 9 λl=>
 deref m λn=>
 so n 10 [.int .u64 (if l>k then l else k)]<|
 deref m λo=>
 so o 7 [.int .i64 3]<|
 R ())<|
 aq h.2 (
 bS (O1 m) λp=>
 deref m λq=>
 so q 7 [zi]<|
 deref m λr=>
 fx r 2 λt=>
 bO (Dq t) λu=>
 aq u (
 bz ⟨a,0⟩ λv=>
 bS (O0 m v) λw=>
 R ())<|
 R ())<|
 R ():=bt Tryz.func285 (uz 0x2081f42678f9523a575b36a3112e56962a92452041c30069400a50019400256830400428204a67d198842520f94e75b65838c37a70c98308a1c50402e51099422251069441250009480c1001)
instance aa9(m:Option Pt)(s:eI):bs (Ti m s) λR=>
 new (Ks.mk aO s) λa=>
 join [] (λb=>
 bz ⟨a,5⟩ λc=>
 aq (c==0) (
 R ())<|
 bz ⟨a,3⟩ λd=>
 aq (d==0) (
 R ())<|
 b ()) λ(e:Unit)=>
 bF<|
 bz ⟨a,1⟩ λf=>
 bz ⟨a,2⟩ λg=>
 bz ⟨a,3⟩ λh=>
 aM (yh f g) λi=>
 co ⟨a,3⟩ (Ks.mk cu h)<|
 aM (Du i 1000000000 h) λj=>
 join cb (λk=>
 qt ⟨a,8⟩ λl=>
 aq (!l) (
 k true)<|
 deref m λn=>
 pC n λo=>
 aM (Kz o) λp=>
 k (decide (j≥p))) λ(q:Bool)=>
 aq q (
 bF<|
 deref m λr=>
 deref m λt=>
 pC r λu=>
 fx t 1 λv=>
 aM (Om v) λw=>
 co r (Ks.mk cp u)<|
 aM (Tv u w j) λx=>
 R ())<|
 R ():=bt Tryz.func280 (uz 0x81a6542ae6089870c60850442650049400258030400a00448182265d51ea50e12a1830431650c2943025303048004001)
instance abc(m:Option Pt)(s:eI):bs (Tl m s) λR=>
 new (Ks.mk aO s) λa=>
 loop [] () λb (c:Unit)=>
 join cb (λd=>
 deref m λe=>
 gw e 7 λf=>
 aq (f==0) (
 deref m λg=>
 fx g 2 λh=>
 bO (Dq h) λi=>
 d i)<|
 d false) λ(j:Bool)=>
 aq j (
 deref m λk=>
 so k 7 [.int .i64 1]<|
 b ())<|
 join cb (λl=>
 bF<|
 deref m λn=>
 gw n 7 λo=>
 aq (o==1) (
 deref m λp=>
 fx p 4 λq=>
 aM (Fk q) λr=>
 aq (decide (r>0)) (
 bz ⟨a,7⟩ λt=>
 aM (KV m 256) λu=>
 co ⟨a,7⟩ (Ks.mk cu t)<|
 l (decide (t≤u)))<|
 l false)<|
 l false) λ(v:Bool)=>
 aq v (
 bz ⟨a,0⟩ λw=>
 bS (O0 m w) λx=>
 R ())<|
 R ():=bt Tryz.func284 (uz 0xc8245268de4e98a0792b61791a9f78fa5e010a5e0cea4d7163296d62e96962aa6562696162295d61e95801a91440c2040025503094044001002101102080182001001)
instance abe(m:Option Pt):bs (Tn m) λR=>
 aM (Fj m) λa=>
 aq (a==0) (
 R ())<|
 aM (Fj m) λb=>
 aM (Ol m) λc=>
 aM (Oz b c) λd=>
 join cb (λe=>
 deref m λf=>
 fx f 2 λg=>
 bO (Dq g) λh=>
 aq h (
 e true)<|
 deref m λi=>
 cZ i 8 λj=>
 e (decide ((if 1>d then 1 else d)>j))) λ(k:Bool)=>
 aq k (
 deref m λl=>
 so l 8 [.int .u64 (if 1>d then 1 else d)]<|
 R ())<|
 R ():=bt Tryz.func286 (uz 0x1c0098044001201)
instance YR(m:Option Pt):bs (Kp m) λR=>
 deref m λa=>
 fx a 5 λb=>
 bE (OC b) λ(c:Int×Bool)=>
 R c.2:=bt Tryz.func135 (uz 0xb)
instance abf(d:Option Pt)(o:eI)(a:Bool):bs (To d o a) λR=>
 new (Ks.mk aO o) λb=>
 join cb (λc=>
 bz ⟨b,6⟩ λe=>
 aq (decide (e>0)) (
 deref d λf=>
 ob f 11 λg=>
 c (!g))<|
 c false) λ(h:Bool)=>
 aq h (
 bz ⟨b,1⟩ λi=>
 bz ⟨b,7⟩ λj=>
 aM (n_ i j) λk=>
 deref d λl=>
 so l 11 [.bool true]<|
 deref d λm=>
 so m 12 [.bool true]<|
 deref d λn=>
 so n 13 [.int .u64 k]<|
 bF<|
 deref d λp=>
 deref d λq=>
 cZ p 10 λr=>
 cZ q 9 λs=>
 deref d λt=>
 so t 10 [.int .u64 (if s>r then s else r)]<|
 R ())<|
 deref d λu=>
 ob u 11 λv=>
 aq v (
 deref d λw=>
 ob w 12 λx=>
 deref d λy=>
 so y 12 [.bool (x&&(!a))]<|
 bF<|
 bz ⟨b,1⟩ λz=>
 deref d λA=>
 cZ A 13 λB=>
 aq (decide (z<B)) (
 R ())<|
 deref d λC=>
 so C 11 [.bool false]<|
 deref d λD=>
 so D 12 [.bool false]<|
 deref d λE=>
 gw E 7 λF=>
 aq (F !=3) (
 bS (O1 d) λG=>
 R ())<|
 R ())<|
 R ():=bt Tryz.func287 (uz 0xb1e05921a91440c1002944025e8304100104006071a32a2d12a56552692041c318200594006500095e0c0041002181102001)
instance abB(m:Option Pt):bs (Tz m) λR=>
 deref m λa=>
 gw a 7 λb=>
 aq (b==2) (
 R 512)<|
 aq (b==3) (
 R 256)<|
 R 739:=bt Tryz.func308 (uz 0x1cd080041001)
instance abg(d:Option Pt)(o:eI)(a:Int):bs (Tp d o a) λR=>
 new (Ks.mk aO o) λb=>
 bF<|
 deref d λc=>
 bz ⟨b,6⟩ λe=>
 deref d λf=>
 cZ c 9 λg=>
 cZ f 6 λh=>
 aM (yh g e) λi=>
 jy f 6 h<|
 deref d λj=>
 so j 9 [.int .u64 (if h>i then h else i)]<|
 join [] (λk=>
 deref d λl=>
 ob l 12 λm=>
 aq m (
 bF<|
 deref d λn=>
 bz ⟨b,7⟩ λp=>
 bz ⟨b,5⟩ λq=>
 cZ n 9 λr=>
 aM (n_ p q) λs=>
 jy n 9 r<|
 deref d λt=>
 so t 9 [.int .u64 (if s>r then s else r)]<|
 k ())<|
 bz ⟨b,5⟩ λu=>
 aq (decide (u>0)) (
 bF<|
 deref d λv=>
 deref d λw=>
 fx v 4 λx=>
 cZ w 6 λy=>
 aM (Fj d) λz=>
 jy w 6 y<|
 kY v 4 x<|
 aM (Fk x) λA=>
 jy w 6 y<|
 aM (Tz d) λB=>
 jy w 6 y<|
 aM (Ty z A B a y) λC=>
 deref d λD=>
 fx D 2 λE=>
 bO (Dq E) λF=>
 aq F (
 bF<|
 deref d λG=>
 bz ⟨b,5⟩ λH=>
 cZ G 9 λI=>
 aM (n_ I H) λJ=>
 deref d λK=>
 so K 9 [.int .u64 (if C<J then C else J)]<|
 k ())<|
 join cb (λL=>
 bF<|
 deref d λM=>
 cZ M 9 λN=>
 aq (decide (N<C)) (
 L true)<|
 bz ⟨b,1⟩ λO=>
 deref d λQ=>
 cZ Q 6 λS=>
 L (decide (O<(IntKind.u64.wrap (10*S))))) λ(T:Bool)=>
 aq T (
 bF<|
 deref d λU=>
 bz ⟨b,5⟩ λV=>
 cZ U 9 λX=>
 aM (n_ X V) λY=>
 deref d λZ=>
 so Z 9 [.int .u64 Y]<|
 k ())<|
 k ())<|
 k ()) λ(a0:Unit)=>
 bF<|
 deref d λa1=>
 cZ a1 9 λa2=>
 aM (KX d) λa3=>
 jy a1 9 a2<|
 deref d λa4=>
 so a4 9 [.int .u64 (if a3>a2 then a3 else a2)]<|
 deref d λa5=>
 gw a5 7 λa6=>
 aq (a6==3) (
 aM (KX d) λa7=>
 deref d λa8=>
 so a8 9 [.int .u64 a7]<|
 R ())<|
 R ():=bt Tryz.func288 (uz 0x2206982aa2512255d51e95869840c2005940065000964fc30400206982aa2512255d51ea10318210594006500095afc30607d73e97995ceb5d5cda5c5cca5b5cba5a5caa585c8a57009a57107a465541690c204612500094afc309afc112071a32a2d12a56582695d51ea103182188944165001940025f430400607cf99e6995d23b66089961a644198d14c10b0c02a50899401e5002940025a4304100181d6cda8c44b95a54aa595c9a840c81821079441650019400256430400401207dd3ea38736570e32934b1ea2c42832460802251059400650009460c1001)
instance YA(bn:Int):bs (Oh bn) λR=>
 ko (R5 10) λa=>
 ko R6 λb=>
 ko R7 λc=>
 ko R8 λd=>
 ko R9 λe=>
 ko R_ λf=>
 new [.ptr a,.ptr b,.ptr c,.ptr d,.ptr e,.ptr f,.int .u64 (if 9000<(if 100>bn then 100 else bn)then 9000 else(if 100>bn then 100 else bn)),zi,zu,zu,zu,.bool false,.bool false,zu] λg=>
 deref (some ⟨g,0⟩) λh=>
 so h 9 [.int .u64 (IntKind.u64.wrap (10*(if 9000<(if 100>bn then 100 else bn)then 9000 else(if 100>bn then 100 else bn))))]<|
 deref (some ⟨g,0⟩) λi=>
 cZ i 9 λj=>
 aM (Oz (IntKind.u64.wrap (j*1000)) 739) λk=>
 deref (some ⟨g,0⟩) λl=>
 so l 8 [.int .u64 k]<|
 R (some ⟨g,0⟩):=bt Tryz.func118 (uz 0x14)
instance Zw(d:Option Pt)(o:Int)(a:Sl):bs (OA d o a) λR=>
 aq d.isNone (
 R (⟨none,0,0⟩,0,2))<|
 bO (SO d o a) λb=>
 aq (!b) (
 R (⟨none,0,0⟩,0,11))<|
 deref d λc=>
 ec c λe=>
 loop Qs (⟨none,0,0⟩,⟨none,0,0⟩,0) λf (g:Qw)=>
 aq (decide (g.2.2<((e.len:Nat):Int))) (
 idx e g.2.2 9 λh=>
 ld aD h λi=>
 new [zu,zu,zu,zu,zu,zu,.bool false,.bool false,.bool false] λj=>
 st ⟨j,0⟩ (Ks.mk aD i)<|
 bz ⟨j,1⟩ λk=>
 join cl (λl=>
 join cb (λm=>
 qt ⟨j,7⟩ λn=>
 aq (!n) (
 aq (decide (k≤o)) (
 m true)<|
 ld aD ⟨j,0⟩ λp=>
 bO (SQ a p) λq=>
 m q)<|
 m false) λ(r:Bool)=>
 aq r (
 ld aD ⟨j,0⟩ λs=>
 new [.int .u64 s.1,.int .u64 s.2.1,.int .u64 s.2.2.1,.int .u64 s.2.2.2.1,.int .u64 s.2.2.2.2.1,.int .u64 s.2.2.2.2.2.1,.bool s.2.2.2.2.2.2.1,.bool s.2.2.2.2.2.2.2.1,.bool s.2.2.2.2.2.2.2.2] λt=>
 mw 9 g.1 ⟨some ⟨t,0⟩,1,1⟩ λu=>
 st ⟨j,7⟩ [.bool true]<|
 st ⟨j,8⟩ [.bool false]<|
 l u)<|
 l g.1) λ(v:Sl)=>
 aq (decide (k≤o)) (
 f (v,g.2.1,(IntKind.i64.wrap (g.2.2+1))))<|
 ld aD ⟨j,0⟩ λw=>
 new [.int .u64 w.1,.int .u64 w.2.1,.int .u64 w.2.2.1,.int .u64 w.2.2.2.1,.int .u64 w.2.2.2.2.1,.int .u64 w.2.2.2.2.2.1,.bool w.2.2.2.2.2.2.1,.bool w.2.2.2.2.2.2.2.1,.bool w.2.2.2.2.2.2.2.2] λx=>
 mw 9 g.2.1 ⟨some ⟨x,0⟩,1,1⟩ λy=>
 f (v,y,(IntKind.i64.wrap (g.2.2+1))))<|
 deref d λz=>
 st z [.sl g.2.1]<|
 aM (SR d) λA=>
 R (g.1,A,0):=bt Tryz.func177 (uz 0x20038c002b8110424110004004204704004170428424318200104004004d081001)
instance ZD(b:Option Pt)(s:lm):bs (Dr b s) λR=>
 new (Ks.mk bZ s) λa=>
 new [zu,zu] λc=>
 bE (OL b) λ(d:(Int×Int)×Bool)=>
 new [zu,zu] λe=>
 st ⟨e,0⟩ (Ks.mk cr d.1)<|
 join [] (λf=>
 aq d.2 (
 bF<|
 deref b λg=>
 ec g λh=>
 bg (KH b) λi=>
 co g (Ks.mk cl h)<|
 idx h i 9 λj=>
 bF<|
 ld bZ ⟨a,0⟩ λk=>
 deref (some j) λl=>
 so l 8 [.bool false]<|
 co ⟨a,0⟩ (Ks.mk bZ k)<|
 deref (some j) λm=>
 so m 2 (Ks.mk bZ k)<|
 f ())<|
 f ()) λ(n:Unit)=>
 ld cr ⟨e,0⟩ λ(o:Int×Int)=>
 st ⟨c,0⟩ (Ks.mk cr o)<|
 ld cr ⟨c,0⟩ λ(p:Int×Int)=>
 R (p,d.2):=bt Tryz.func184 (uz 0x7020ae722aa879661a5a459a81259439422019480250438171e65941a9545983081004940025383041001004001001)
instance YJ(b:Option Pt):bs (Ok b) λR=>
 new [.ptr b] λa=>
 R (.mk (.func gE) [] [V1.enc (.lf (.ptr (some ⟨a,0⟩)))]):=bt Tryz.func127 (uz 8)
instance ZJ(yield:Fv)(c0:Pt):bs (Sq yield c0) λR=>
 pC c0 λa=>
 aq a.isNone (
 R ())<|
 pC c0 λb=>
 deref b λc=>
 ec c λd=>
 loop ci 0 λe (f:Int)=>
 aq (decide (f<((d.len:Nat):Int))) (
 idx d f 9 λg=>
 ld aD g λh=>
 new [zu,zu,zu,zu,zu,zu,.bool false,.bool false,.bool false] λi=>
 st ⟨i,0⟩ (Ks.mk aD h)<|
 ld aD ⟨i,0⟩ λj=>
 tg Tryz.prog yield [.agg (Ks.mk aD j)] [qb] λ(k:Bool)=>
 aq (!k) (
 R ())<|
 e (IntKind.i64.wrap (f+1)))<|
 R ():=bt Tryz.func190 (uz 0x2c2047040041301182001201)
instance i81(b:Option Pt):NU (XS b) λn0 R=>
 new [zu] λa=>
 st ⟨a,0⟩ [zu]<|
 bE (Ok b) λ(c:Fv)=>
 qc Tryz.prog c [.agg aD] (λ(d:qY) e f g=>
 new [zu,zu,zu,zu,zu,zu,.bool false,.bool false,.bool false] λh=>
 st ⟨h,0⟩ (Ks.mk aD d)<|
 e<|
 ld aD ⟨h,0⟩ λi=>
 bO (Ko i) λj=>
 aq j (
 bz ⟨a,0⟩ λk=>
 bz ⟨h,1⟩ λl=>
 bz ⟨h,0⟩ λm=>
 st ⟨a,0⟩ [.int .u64 (IntKind.u64.wrap (k+(IntKind.u64.wrap (l-m))))]<|
 f)<|
 f) λn=>oO 0 n (bz ⟨a,0⟩ λo=>
 lB n0<|R o)<|
 gx:=TI Tryz.func81 (.s .o (.s .o (.s (.s .o (.b (.r [.agg aD] .o (.b (.s .o (.s .o .o)))))) (.s .o .o))))
instance aaw(b:Option Pt):bs (SX b) λR=>
 aq b.isNone (
 R 0)<|
 deref b λa=>
 ec a λc=>
 R ((c.len:Nat):Int):=bt Tryz.func241 (uz 0xa)
instance ZA(b:Option Pt):bs (Se b) λR=>
 aq b.isNone (
 R 0)<|
 deref b λa=>
 ec a λc=>
 loop [.int .u64,.int .i64] (0,0) λd (e:Int×Int)=>
 aq (decide (e.2<((c.len:Nat):Int))) (
 idx c e.2 9 λf=>
 ld aD f λg=>
 new [zu,zu,zu,zu,zu,zu,.bool false,.bool false,.bool false] λh=>
 st ⟨h,0⟩ (Ks.mk aD g)<|
 ld aD ⟨h,0⟩ λi=>
 bO (Ko i) λj=>
 aq j (
 deref b λk=>
 ec k λl=>
 idx l e.2 9 λm=>
 so m 8 [.bool true]<|
 bz ⟨h,1⟩ λn=>
 bz ⟨h,0⟩ λo=>
 d ((IntKind.u64.wrap (e.1+(IntKind.u64.wrap (n-o)))),(IntKind.i64.wrap (e.2+1))))<|
 d (e.1,(IntKind.i64.wrap (e.2+1))))<|
 R e.1:=bt Tryz.func181 (uz 0x700f0811c100104d003086080041001241001)
instance aas(b:Option Pt):bs (OL b) λR=>
 new [zu,zu] λa=>
 bg (KH b) λc=>
 aq (decide (c<0)) (
 st ⟨a,0⟩ [zu,zu]<|
 ld cr ⟨a,0⟩ λ(d:Int×Int)=>
 R (d,false))<|
 bF<|
 deref b λe=>
 deref b λf=>
 ec e λg=>
 ec f λh=>
 idx g c 9 λi=>
 idx h c 9 λj=>
 bz i λk=>
 cZ j 1 λl=>
 st ⟨a,0⟩ [.int .u64 k,.int .u64 l]<|
 ld cr ⟨a,0⟩ λ(m:Int×Int)=>
 R (m,true):=bt Tryz.func237 (uz 0x8128a1091aa0610a4f1ce19d70da4e345a4b0ca0890443250089441250009490c1241001001)
instance ZF(b:Option Pt)(from' to':Int)(s:lm):bs (Dt b from' to' s) λR=>
 new (Ks.mk bZ s) λa=>
 aq b.isNone (
 R 2)<|
 deref b λc=>
 cZ c 1 λd=>
 aq ((from' !=d)||(decide (to'≤from'))) (
 R 1)<|
 deref b λe=>
 ec e λf=>
 aq (decide (((f.len:Nat):Int)≥4096)) (
 R 5)<|
 bF<|
 ld bZ ⟨a,0⟩ λg=>
 deref b λh=>
 ec h λi=>
 new [.int .u64 from',.int .u64 to',.int .u64 g.1,.int .u64 g.2.1,.int .u64 g.2.2.1,.int .u64 g.2.2.2.1,.bool g.2.2.2.2,.bool false,.bool false] λj=>
 co h (Ks.mk cl i)<|
 mw 9 i ⟨some ⟨j,0⟩,1,1⟩ λk=>
 deref b λl=>
 st l [.sl k]<|
 deref b λm=>
 so m 1 [.int .u64 to']<|
 R 0:=bt Tryz.func186 (uz 0x22075b36a3112e56952aa6499840d85d622d0871e5086941165001940025783055081001)
instance aax(b:Option Pt):NU (KH b) λn0 R=>
 new [zi] λa=>
 new [zi] λc=>
 st ⟨c,0⟩ [zi]<|
 bE (Ok b) λ(d:Fv)=>
 qc Tryz.prog d [.agg aD] (λ(e:qY) f g h=>
 new [zu,zu,zu,zu,zu,zu,.bool false,.bool false,.bool false] λi=>
 st ⟨i,0⟩ (Ks.mk aD e)<|
 f<|
 qt ⟨i,8⟩ λj=>
 aq j (
 de ⟨c,0⟩ λk=>
 st ⟨a,0⟩ [.int .i64 k]<|
 h 1)<|
 de ⟨c,0⟩ λl=>
 st ⟨c,0⟩ [.int .i64 (IntKind.i64.wrap (l+1))]<|
 g) λm=>oO 0 m (st ⟨a,0⟩ [.int .i64 (-1)]<|
 de ⟨a,0⟩ λn=>
 lB n0<|R n)<|
 oO 1 m (de ⟨a,0⟩ λo=>
 lB n0<|R o)<|
 gx:=TI Tryz.func242 (.s .o (.s .o (.s (.s .o (.b (.r [.agg aD] .o (.b (.s (.s .o (.s (.s .o .o) .o)) .o))))) (.s .o .o))))
instance aam(b:Option Pt)(upto:Int)(sacks:Sl):bs (SO b upto sacks) λR=>
 new [.ptr b] λa=>
 pC ⟨a,0⟩ λc=>
 deref c λd=>
 cZ d 1 λe=>
 aq (decide (upto≤e)) (
 bO (OT sacks (.mk (.func mh) [] [V1.enc (.lf (.ptr (some ⟨a,0⟩)))])) λf=>
 R (!f))<|
 R false:=bt Tryz.func231 (uz 8)
instance aa5(r:Int×Int)(c0:Pt):bs (Vq r c0) λR=>
 new (Ks.mk cr r) λa=>
 bF<|
 pC c0 λb=>
 bz ⟨a,1⟩ λc=>
 deref b λd=>
 cZ d 1 λe=>
 aq (decide (c>e)) (
 R true)<|
 bz ⟨a,0⟩ λf=>
 bz ⟨a,1⟩ λg=>
 R (decide (f≥g)):=bt Tryz.func276 (uz 0x2078e99d2cda4f34b32d38b2e930b2692c22a92c22291c9146a451030410a50809430c1001)
instance aao(b:Option Pt):bs (SR b) λR=>
 deref b λa=>
 ec a λc=>
 loop Qt (0,0,(IntKind.i64.wrap (((c.len:Nat):Int)-1))) λd (e:Qx)=>
 aq (decide (e.2.2≥0)) (
 deref b λf=>
 ec f λg=>
 idx g e.2.2 9 λh=>
 join ci (λi=>
 deref (some h) λj=>
 ob j 7 λk=>
 aq k (
 i (IntKind.i64.wrap (e.2.1+1)))<|
 i e.2.1) λ(l:Int)=>
 deref (some h) λm=>
 ld aD m λn=>
 bO (Ko n) λo=>
 aq (o&&(decide (l≥3))) (
 deref (some h) λp=>
 so p 8 [.bool true]<|
 bF<|
 deref (some h) λq=>
 deref (some h) λr=>
 cZ q 1 λs=>
 bz r λt=>
 d ((IntKind.u64.wrap (e.1+(IntKind.u64.wrap (s-t)))),l,(IntKind.i64.wrap (e.2.2-1))))<|
 d (e.1,l,(IntKind.i64.wrap (e.2.2-1))))<|
 R e.1:=bt Tryz.func233 (uz 0x1c00206cb99a44aa59549a481070c60861651819430259c30010400480440440010812010450440030c6080041001001)
instance Yy:bs RG λR=>
 new [.sl ⟨none,0,0⟩,zu] λa=>
 R (some ⟨a,0⟩):=bt Tryz.func116 (uz 8)
instance YK(p:qY):bs (Ko p) λR=>
 new (Ks.mk aD p) λa=>
 qt ⟨a,7⟩ λb=>
 aq (!b) (
 qt ⟨a,8⟩ λc=>
 R (!c))<|
 R false:=bt Tryz.func128 (uz 8)
instance aan(sacks:Sl)(p:qY):bs (SQ sacks p) λR=>
 new (Ks.mk aD p) λa=>
 bO (OT sacks (.mk (.func oV) [] [V1.enc (.lf (.ptr (some ⟨a,0⟩)))])) λb=>
 R b:=bt Tryz.func232 (uz 8)
instance aa6(r:Int×Int)(c0:Pt):bs (Vr r c0) λR=>
 new (Ks.mk cr r) λa=>
 bz ⟨a,0⟩ λc=>
 bz c0 λd=>
 aq (decide (c≤d)) (
 bz ⟨a,1⟩ λe=>
 bz ⟨c0.b,c0.o+1⟩ λf=>
 R (decide (e≥f)))<|
 R false:=bt Tryz.func277 (uz 8)
instance Zx(b:Option Pt)(upto:Int):bs (Sc b upto) λR=>
 aq b.isNone (
 R 2)<|
 deref b λa=>
 cZ a 1 λc=>
 aq (decide (upto>c)) (
 R 11)<|
 deref b λd=>
 cZ d 2 λe=>
 deref b λf=>
 so f 2 [.int .u64 (if upto>e then upto else e)]<|
 R 0:=bt Tryz.func178 (uz 0x20d081001)
instance aal(b:Option Pt):bs (SN b) λR=>
 aq b.isNone (
 R 0)<|
 bF<|
 deref b λa=>
 deref b λc=>
 bz a λd=>
 cZ c 2 λe=>
 R (IntKind.u64.wrap (d-e)):=bt Tryz.func230 (uz 0x2034998c208a470c60850401250009440c1241001)
instance ZE(b:Option Pt)(most:Int):bs (Ds b most) λR=>
 new [zu,zu] λa=>
 new [zu,zu] λc=>
 st ⟨c,0⟩ [zu,zu]<|
 join cb (λd=>
 loop cb false λe (f:Bool)=>
 aq (decide (most≥1)) (
 aM (Vu b) λg=>
 aq ((if g<(IntKind.u64.wrap most)then g else(IntKind.u64.wrap most))==0) (
 d f)<|
 bF<|
 deref b λh=>
 deref b λi=>
 cZ h 1 λj=>
 cZ i 1 λk=>
 st ⟨c,0⟩ [.int .u64 j,.int .u64 (IntKind.u64.wrap (k+(if g<(IntKind.u64.wrap most)then g else(IntKind.u64.wrap most))))]<|
 deref b λl=>
 cZ l 1 λm=>
 deref b λn=>
 so n 1 [.int .u64 (IntKind.u64.wrap (m+(if g<(IntKind.u64.wrap most)then g else(IntKind.u64.wrap most))))]<|
 d true)<|
 d f) λ(o:Bool)=>
 ld cr ⟨c,0⟩ λ(p:Int×Int)=>
 st ⟨a,0⟩ (Ks.mk cr p)<|
 ld cr ⟨a,0⟩ λ(q:Int×Int)=>
 R (q,o):=bt Tryz.func185 (uz 0x71e03226c62ea6942a96582691c31821412089401250009520c12010010880421c1182087044001001001)
instance i82(b:Option Pt):bs (Vu b) λR=>
 aq b.isNone (
 R 0)<|
 bF<|
 deref b λa=>
 deref b λc=>
 bz a λd=>
 cZ c 1 λe=>
 R (IntKind.u64.wrap (d-e)):=bt Tryz.func82 (uz 0x2034998c208a470c60850401250009440c1241001)
instance Zv(b:Option Pt)(n:Int):bs (Sb b n) λR=>
 aq b.isNone (
 R 2)<|
 aq (decide (n<1)) (
 R 1)<|
 bF<|
 deref b λa=>
 cZ a 3 λc=>
 aM (SN b) λd=>
 jy a 3 c<|
 aq (decide ((IntKind.u64.wrap n)>(IntKind.u64.wrap (c-d)))) (
 R 5)<|
 deref b λe=>
 bz e λf=>
 deref b λg=>
 st g [.int .u64 (IntKind.u64.wrap (f+(IntKind.u64.wrap n)))]<|
 R 0:=bt Tryz.func176 (uz 0x832068a999349a58588a571e61440c10069400a504094b0c11c10011c1001081001)
instance Yx(n:Int):bs (RE n) λR=>
 new [zu,zu,zu,.int .u64 (IntKind.u64.wrap (if 1073741824<(if 0>n then 0 else n)then 1073741824 else(if 0>n then 0 else n)))] λa=>
 R (some ⟨a,0⟩):=bt Tryz.func115 (uz 8)
instance i65(a b:pJ):bs (XJ a b) λR=>
 new (Ks.mk dx a) λc=>
 new (Ks.mk dx b) λd=>
 de ⟨c,0⟩ λe=>
 de ⟨d,0⟩ λf=>
 aq (e==f) (
 de ⟨c,1⟩ λg=>
 de ⟨d,1⟩ λh=>
 aq (g==h) (
 de ⟨c,2⟩ λi=>
 de ⟨d,2⟩ λj=>
 aq (i==j) (
 bz ⟨c,3⟩ λk=>
 bz ⟨d,3⟩ λl=>
 aq (k==l) (
 bz ⟨c,4⟩ λm=>
 bz ⟨d,4⟩ λn=>
 aq (m==n) (
 ec ⟨c,5⟩ λo=>
 ec ⟨d,5⟩ λp=>
 bO (Vp o p) λq=>
 R q)<|
 R false)<|
 R false)<|
 R false)<|
 R false)<|
 R false:=bt Tryz.func65 (uz 8)
instance abi(l:Sl)(x:Int):bs (OU l x) λR=>
 loop ci 0 λa (b:Int)=>
 aq (decide (b<((l.len:Nat):Int))) (
 idx l b 1 λc=>
 de c λd=>
 aq (d==x) (
 R true)<|
 a (IntKind.i64.wrap (b+1)))<|
 R false:=bt Tryz.func290 (uz 0x7009081201045046080041001)
instance i32(a b:tb):bs (Xl a b) λR=>
 new (Ks.mk dz a) λc=>
 new (Ks.mk dz b) λd=>
 ec ⟨c,0⟩ λe=>
 ec ⟨d,0⟩ λf=>
 bO (Vp e f) λg=>
 aq g (
 ec ⟨c,1⟩ λh=>
 ec ⟨d,1⟩ λi=>
 bO (Vp h i) λj=>
 aq j (
 ec ⟨c,2⟩ λk=>
 ec ⟨d,2⟩ λl=>
 bO (XC k l) λm=>
 aq m (
 bz ⟨c,3⟩ λn=>
 bz ⟨d,3⟩ λo=>
 R (n==o))<|
 R false)<|
 R false)<|
 R false:=bt Tryz.func32 (uz 8)
instance i25(a b:Sl):bs (Vp a b) λR=>
 bO (XA a b (.mk (.func iU) [] [])) λc=>
 R c:=bt Tryz.func25 (uz 8)
instance i49(x y:gG):bs (c49 x y) λR=>
 new (Ks.mk aS x) λa=>
 new (Ks.mk aS y) λb=>
 ld aS ⟨a,0⟩ λc=>
 ld aS ⟨b,0⟩ λd=>
 R ((c.1==d.1)&&((c.2.1==d.2.1)&&((c.2.2.1==d.2.2.1)&&((c.2.2.2.1==d.2.2.2.1)&&(c.2.2.2.2==d.2.2.2.2))))):=bt Tryz.func49 (uz 8)
instance i57(a b:Sl):bs (XC a b) λR=>
 bO (XU a b (.mk (.func jU) [] [])) λc=>
 R c:=bt Tryz.func57 (uz 8)
instance i89(x y:Int):bs (c89 x y) λR=>
 R (x==y):=bt Tryz.func89 (uz 8)
instance i48(a b:Sl)(one:Fv):bs (XA a b one) λR=>
 aq (((a.len:Nat):Int)!=((b.len:Nat):Int)) (
 R false)<|
 loop ci 0 λc (d:Int)=>
 aq (decide (d<((a.len:Nat):Int))) (
 bF<|
 idx a d 5 λe=>
 idx b d 5 λf=>
 ld aS e λg=>
 ld aS f λh=>
 tg Tryz.prog one [.agg (Ks.mk aS g),.agg (Ks.mk aS h)] [qb] λ(i:Bool)=>
 aq (!i) (
 R false)<|
 c (IntKind.i64.wrap (d+1)))<|
 R true:=bt Tryz.func48 (uz 0x1c032029955126e2045d61e94d20e91c69411651c29400650809520c1081201047046080041241001)
instance i88(a b:Sl)(one:Fv):bs (XU a b one) λR=>
 aq (((a.len:Nat):Int)!=((b.len:Nat):Int)) (
 R false)<|
 loop ci 0 λc (d:Int)=>
 aq (decide (d<((a.len:Nat):Int))) (
 bF<|
 idx a d 1 λe=>
 idx b d 1 λf=>
 de e λg=>
 de f λh=>
 tg Tryz.prog one [vi g,vi h] [qb] λ(i:Bool)=>
 aq (!i) (
 R false)<|
 c (IntKind.i64.wrap (d+1)))<|
 R true:=bt Tryz.func88 (uz 0x1c032029955126e2045d61e94d20e91c69411651c29400650809520c1081201047046080041241001)
instance i12(d:cP)(o:Sl)(a:Bool):bs (c12 d o a) λR=>
 new (Ks.mk aW d) λb=>
 join [] (λc=>
 aq (!a) (
 ld aW ⟨b,0⟩ λe=>
 bE (Xf e) λ(f:cP)=>
 st ⟨b,0⟩ (Ks.mk aW f)<|
 c ())<|
 c ()) λ(g:Unit)=>
 ld aW ⟨b,0⟩ λh=>
 bE (Wq h) λ(i:Option Pt×Int)=>
 ld aW ⟨b,0⟩ λj=>
 bE (Xm j) λ(k:Option Pt×Int)=>
 bO Xi λl=>
 aq (((!l)||(i.2 !=k.2))||(!((!i.1.isNone)==(k.2==0)))) (
 R false)<|
 aq (k.2 !=0) (
 R true)<|
 bE (Xg o 70) λ(m:Sl)=>
 loop ci 0 λn (p:Int)=>
 aq (decide (p<((m.len:Nat):Int))) (
 idx m p 15 λq=>
 ld aY q λr=>
 bE (Wr i.1 r) λ(s:tb×Int)=>
 new [.sl ⟨none,0,0⟩,.sl ⟨none,0,0⟩,.sl ⟨none,0,0⟩,zu] λt=>
 st ⟨t,0⟩ (Ks.mk dz s.1)<|
 idx m p 15 λu=>
 ld aY u λv=>
 bE (Xn k.1 v) λ(w:tb×Int)=>
 new [.sl ⟨none,0,0⟩,.sl ⟨none,0,0⟩,.sl ⟨none,0,0⟩,zu] λx=>
 st ⟨x,0⟩ (Ks.mk dz w.1)<|
 ld dz ⟨t,0⟩ λy=>
 ld dz ⟨x,0⟩ λz=>
 bO (Xl y z) λA=>
 aq ((!A)||(s.2 !=w.2)) (
 R false)<|
 bO (Xo i.1 k.1) λB=>
 aq (!B) (
 R false)<|
 n (IntKind.i64.wrap (p+1)))<|
 R true:=bt Tryz.func12 (uz 0x1c08420480412c1182001040049049040040048004001)
instance i35(d o:Option Pt):bs (Xo d o) λR=>
 join [] (λa=>
 bF<|
 deref o λc=>
 bz c λe=>
 aM (OG d) λf=>
 co c (Ks.mk cu e)<|
 aq (f !=e) (
 R false)<|
 deref o λg=>
 bg (Ws d) λh=>
 bg (Wx (some ⟨g.b,g.o+1⟩)) λi=>
 aq (h !=i) (
 R false)<|
 a ()) λ(j:Unit)=>
 loop ci (-1) λk (l:Int)=>
 aq (decide (l≤8)) (
 bE (Xj d l) λ(m:eN×Bool)=>
 new [zi,zi,zu,zu,zu,zu,zu,zu,.bool false,.bool false] λn=>
 st ⟨n,0⟩ (Ks.mk bC m.1)<|
 bE (XF o l) λ(p:eN×Bool)=>
 new [zi,zi,zu,zu,zu,zu,zu,zu,.bool false,.bool false] λq=>
 st ⟨q,0⟩ (Ks.mk bC p.1)<|
 bE (Xh d l) λ(r:tc×Bool)=>
 new [zu,zu,zu,zi] λs=>
 st ⟨s,0⟩ (Ks.mk qn r.1)<|
 bE (XG o l) λ(t:tc×Bool)=>
 new [zu,zu,zu,zi] λu=>
 st ⟨u,0⟩ (Ks.mk qn t.1)<|
 bE (Xk d l) λ(v:pJ×Bool)=>
 new [zi,zi,zi,zu,zu,.sl ⟨none,0,0⟩] λw=>
 st ⟨w,0⟩ (Ks.mk dx v.1)<|
 deref o λx=>
 bE (XH (some ⟨x.b,x.o+1⟩) l) λ(y:pJ×Bool)=>
 new [zi,zi,zi,zu,zu,.sl ⟨none,0,0⟩] λz=>
 st ⟨z,0⟩ (Ks.mk dx y.1)<|
 deref o λA=>
 bE (XI (some ⟨A.b,A.o+68⟩) l) λ(B:Rg×Int)=>
 new [zi,zi,zi,zi,zi,zi,zi,zi] λC=>
 st ⟨C,0⟩ (Ks.mk nz B.1)<|
 join cb (λD=>
 bF<|
 ld bC ⟨n,0⟩ λE=>
 ld bC ⟨q,0⟩ λF=>
 aq (!((E.1==F.1)&&((E.2.1==F.2.1)&&((E.2.2.1==F.2.2.1)&&((E.2.2.2.1==F.2.2.2.1)&&((E.2.2.2.2.1==F.2.2.2.2.1)&&((E.2.2.2.2.2.1==F.2.2.2.2.2.1)&&((E.2.2.2.2.2.2.1==F.2.2.2.2.2.2.1)&&((E.2.2.2.2.2.2.2.1==F.2.2.2.2.2.2.2.1)&&((E.2.2.2.2.2.2.2.2.1==F.2.2.2.2.2.2.2.2.1)&&(E.2.2.2.2.2.2.2.2.2==F.2.2.2.2.2.2.2.2.2))))))))))) (
 D true)<|
 aq (!(m.2==p.2)) (
 D true)<|
 ld qn ⟨s,0⟩ λG=>
 ld qn ⟨u,0⟩ λH=>
 aq (!((G.1==H.1)&&((G.2.1==H.2.1)&&((G.2.2.1==H.2.2.1)&&(G.2.2.2==H.2.2.2))))) (
 D true)<|
 aq (!(r.2==t.2)) (
 D true)<|
 ld dx ⟨w,0⟩ λI=>
 ld dx ⟨z,0⟩ λJ=>
 bO (XJ I J) λK=>
 aq (!K) (
 D true)<|
 aq (!(v.2==y.2)) (
 D true)<|
 ld nz ⟨C,0⟩ λL=>
 bE (Xe d l) λ(M:Rg)=>
 co ⟨C,0⟩ (Ks.mk nz L)<|
 aq (!((M.1==L.1)&&(((M.2.1==L.2.1)&&((M.2.2.1==L.2.2.1)&&((M.2.2.2.1==L.2.2.2.1)&&((M.2.2.2.2.1==L.2.2.2.2.1)&&((M.2.2.2.2.2.1==L.2.2.2.2.2.1)&&(M.2.2.2.2.2.2.1==L.2.2.2.2.2.2.1))))))&&(M.2.2.2.2.2.2.2==L.2.2.2.2.2.2.2)))) (
 aq (decide (l≥0)) (
 D (decide (l<8)))<|
 D false)<|
 D false) λ(N:Bool)=>
 aq N (
 R false)<|
 k (IntKind.i64.wrap (l+1)))<|
 R true:=bt Tryz.func35 (uz 0x1c03202ffffdfeba4afff23fffdfeab49fff23ffe9a48fff168a47ffff7f9e91bffc4ffff7f9ad17ffc4fff96913ffc59290ffffdfe3a42fff07fffdfe2b40ffffbff7f82ef7f6e1a7dfc57e9f7f01ea7cfdd97bff8fdca7aff9ff8fdbb78fda6a9e3f3d9a77fd8976ff2fd7a75ff2fd6a74ff3ff2fd5bb2fd9529cbf393a71fd2970fedfd1a6ffeefedfd0b6dfcd3e9b7f2cea6cfcd96bfe8fcca6afe9fe8fcbb68fcc2a9a3f289a67fc8966fe3fc7a65fe4fe3fc6b63fc91698ff1c4a62fc3961fe0fc2a411809470c20fffc110004004004004004004004204804114118200104c81f60fa5e6983ad75836a65826a7183296d82e96012a96002291d6486a510661440c10a50009530c1004001)
instance i27:bs Xi λR=>
 bE Wp λ(a:cP)=>
 bE (Wq a) λ(b:Option Pt×Int)=>
 join [] (λc=>
 aq ((b.2 !=0)||b.1.isNone) (
 R false)<|
 bg (Ws b.1) λd=>
 aq (d !=0) (
 R false)<|
 c ()) λ(e:Unit)=>
 call E7 18 [vp b.1,.agg [.int .i64 1,zi,zi,zu,zu,.sl ⟨none,0,0⟩,zi,zi,zi,zi,zu,zu,.bool false,zi,zi]] [.agg dz,qi] λ(f:tb×Int)=>
 call E7 18 [vp b.1,.agg [.int .i64 2,zi,.int .i64 1000,zu,zu,.sl ⟨none,0,0⟩,zi,zi,zi,zi,zu,zu,.bool false,zi,zi]] [.agg dz,qi] λ(g:tb×Int)=>
 new [.sl ⟨none,0,0⟩,.sl ⟨none,0,0⟩,.sl ⟨none,0,0⟩,zu] λh=>
 st ⟨h,0⟩ (Ks.mk dz g.1)<|
 call E7 18 [vp b.1,.agg [.int .i64 6,zi,zi,zu,zu,.sl ⟨none,0,0⟩,zi,zi,zi,zi,zu,zu,.bool false,zi,zi]] [.agg dz,qi] λ(i:tb×Int)=>
 new [.sl ⟨none,0,0⟩,.sl ⟨none,0,0⟩,.sl ⟨none,0,0⟩,zu] λj=>
 st ⟨j,0⟩ (Ks.mk dz i.1)<|
 aq ((g.2==0)&&(i.2==0)) (
 ec ⟨j,0⟩ λk=>
 aq (((k.len:Nat):Int)==1) (
 ec ⟨j,0⟩ λl=>
 idx l 0 5 λm=>
 gw m 2 λn=>
 R (n==1000))<|
 R false)<|
 R false:=bt Tryz.func27 (uz 0x409004001001)
instance i22(d:cP):bs (Xf d) λR=>
 new (Ks.mk aW d) λa=>
 new [zi,zi,zi,zi,zu,zu,.bool false,zi,zi] λb=>
 bE Wp λ(c:cP)=>
 new [zi,zi,zi,zi,zu,zu,.bool false,zi,zi] λe=>
 st ⟨e,0⟩ (Ks.mk aW c)<|
 join [] (λf=>
 join cb (λg=>
 de ⟨a,0⟩ λh=>
 aq (decide (h≥100)) (
 de ⟨a,0⟩ λi=>
 g (decide (i≤65536)))<|
 g false) λ(j:Bool)=>
 aq j (
 de ⟨a,0⟩ λk=>
 st ⟨e,0⟩ [.int .i64 k]<|
 f ())<|
 f ()) λ(l:Unit)=>
 join [] (λm=>
 join cb (λn=>
 de ⟨a,1⟩ λo=>
 aq (decide (o≥100)) (
 de ⟨a,1⟩ λp=>
 n (decide (p≤65536)))<|
 n false) λ(q:Bool)=>
 aq q (
 de ⟨a,1⟩ λr=>
 st ⟨e,1⟩ [.int .i64 r]<|
 m ())<|
 m ()) λ(s:Unit)=>
 join [] (λt=>
 join cb (λu=>
 de ⟨a,2⟩ λv=>
 aq (decide (v≥1)) (
 de ⟨a,2⟩ λw=>
 u (decide (w≤512)))<|
 u false) λ(x:Bool)=>
 aq x (
 de ⟨a,2⟩ λy=>
 st ⟨e,2⟩ [.int .i64 y]<|
 t ())<|
 t ()) λ(z:Unit)=>
 join [] (λA=>
 join cb (λB=>
 de ⟨a,3⟩ λC=>
 aq (decide (C≥1)) (
 de ⟨a,3⟩ λD=>
 B (decide (D≤512)))<|
 B false) λ(E:Bool)=>
 aq E (
 de ⟨a,3⟩ λF=>
 st ⟨e,3⟩ [.int .i64 F]<|
 A ())<|
 A ()) λ(G:Unit)=>
 join [] (λH=>
 bz ⟨a,4⟩ λI=>
 aq (decide (I≤4611686018427387904)) (
 bz ⟨a,4⟩ λJ=>
 st ⟨e,4⟩ [.int .u64 J]<|
 H ())<|
 H ()) λ(K:Unit)=>
 join [] (λL=>
 join cb (λM=>
 de ⟨a,7⟩ λN=>
 aq (decide (N≥1)) (
 de ⟨a,7⟩ λO=>
 M (decide (O≤1073741824)))<|
 M false) λ(Q:Bool)=>
 aq Q (
 de ⟨a,7⟩ λS=>
 st ⟨e,7⟩ [.int .i64 S]<|
 L ())<|
 L ()) λ(T:Unit)=>
 join [] (λU=>
 join cb (λV=>
 de ⟨a,8⟩ λX=>
 aq (decide (X≥100)) (
 de ⟨a,8⟩ λY=>
 V (decide (Y≤9000)))<|
 V false) λ(Z:Bool)=>
 aq Z (
 de ⟨a,8⟩ λa0=>
 st ⟨e,8⟩ [.int .i64 a0]<|
 U ())<|
 U ()) λ(a1:Unit)=>
 bF<|
 bz ⟨a,5⟩ λa2=>
 qt ⟨a,6⟩ λa3=>
 st ⟨e,5⟩ [.int .u64 a2]<|
 co ⟨a,6⟩ (Ks.mk cb a3)<|
 st ⟨e,6⟩ [.bool a3]<|
 ld aW ⟨e,0⟩ λa4=>
 st ⟨b,0⟩ (Ks.mk aW a4)<|
 ld aW ⟨b,0⟩ λa5=>
 R a5:=bt Tryz.func22 (uz 0x1e05941ea0c6955485a831250c104294102537f0c11c008afc1100107002f811001080041c00ad0440041c00a20440041c00970440041c008c044004001001)
instance i47(d:dk):bs (Xz d) λR=>
 new (Ks.mk aY d) λa=>
 new [zi,zi,zi,zu,zu,.sl ⟨none,0,0⟩,zi,zi,zi,zi,zu,zu,.bool false,zi,zi] λb=>
 join [] (λc=>
 ec ⟨a,5⟩ λe=>
 aq (decide (((e.len:Nat):Int)>6)) (
 ec ⟨a,5⟩ λf=>
 EF f none (some 6) none 2 λg=>
 st ⟨a,5⟩ [.sl g]<|
 c ())<|
 c ()) λ(h:Unit)=>
 join [] (λi=>
 de ⟨a,2⟩ λj=>
 aq (decide (j>200000)) (
 st ⟨a,2⟩ [.int .i64 200000]<|
 i ())<|
 i ()) λ(k:Unit)=>
 ld aY ⟨a,0⟩ λl=>
 st ⟨b,0⟩ (Ks.mk aY l)<|
 ld aY ⟨b,0⟩ λm=>
 R m:=bt Tryz.func47 (uz 0x7200108004001)
instance i23(l:Sl)(most:Int):bs (Xg l most) λR=>
 loop [.sl,.int .i64] (⟨none,0,0⟩,0) λa (b:Sl×Int)=>
 aq ((decide (b.2<((l.len:Nat):Int)))&&(decide (b.2<most))) (
 idx l b.2 15 λc=>
 ld aY c λd=>
 bE (Xz d) λ(e:dk)=>
 new [.int .i64 e.1,.int .i64 e.2.1,.int .i64 e.2.2.1,.int .u64 e.2.2.2.1,.int .u64 e.2.2.2.2.1,.sl e.2.2.2.2.2.1,.int .i64 e.2.2.2.2.2.2.1,.int .i64 e.2.2.2.2.2.2.2.1,.int .i64 e.2.2.2.2.2.2.2.2.1,.int .i64 e.2.2.2.2.2.2.2.2.2.1,.int .u64 e.2.2.2.2.2.2.2.2.2.2.1,.int .u64 e.2.2.2.2.2.2.2.2.2.2.2.1,.bool e.2.2.2.2.2.2.2.2.2.2.2.2.1,.int .i64 e.2.2.2.2.2.2.2.2.2.2.2.2.2.1,.int .i64 e.2.2.2.2.2.2.2.2.2.2.2.2.2.2] λf=>
 mw 15 b.1 ⟨some ⟨f,0⟩,1,1⟩ λg=>
 a (g,(IntKind.i64.wrap (b.2+1))))<|
 R b.1:=bt Tryz.func23 (uz 0x7000081201046105086080041001001)
instance Y7(a b:Int):bs (pO a b) λR=>
 aq (decide (a>(IntKind.u64.wrap (18446744073709551615-b)))) (
 R 18446744073709551615)<|
 R (IntKind.u64.wrap (a+b)):=bt Tryz.func151 (uz 0xa)
instance aaL(bw bG gain:Int):bs (IF bw bG gain) λR=>
 aM (Am bw bG 1000000000) λa=>
 aM (Am a gain 256) λb=>
 R b:=bt Tryz.func256 (uz 8)
instance Y8(size aQ:Int):bs (Ku size aQ) λR=>
 aq ((decide (size<1))||(aQ==18446744073709551615)) (
 R 0)<|
 aM (Am (IntKind.u64.wrap size) 1000000000 aQ) λa=>
 R (if 1000000000<a then 1000000000 else a):=bt Tryz.func152 (uz 0xa)
instance aaF(hi lo c:Int):bs (S4 hi lo c) λR=>
 aq (c==0) (
 R (0,1))<|
 aq (decide (hi≥c)) (
 R (0,3))<|
 loop qn (lo,0,hi,0) λa (b:tc)=>
 aq (decide (b.2.2.2<64)) (
 d_ (0≤(63:Int))<|
 d_ (0≤(1:Int))<|
 d_ (0≤(63:Int))<|
 d_ (0≤(1:Int))<|
 d_ (0≤(1:Int))<|
 aq (((b.2.2.1.fdiv (2^min (63:Int).toNat IntKind.u64.bits))==1)||(decide ((IntKind.u64.wrap (BitVec.ofInt IntKind.u64.bits (IntKind.u64.wrap (b.2.2.1*2^min (1:Int).toNat IntKind.u64.bits))|||BitVec.ofInt IntKind.u64.bits (b.1.fdiv (2^min (63:Int).toNat IntKind.u64.bits))).toNat)≥c))) (
 a ((IntKind.u64.wrap (b.1*2^min (1:Int).toNat IntKind.u64.bits)),(IntKind.u64.wrap (BitVec.ofInt IntKind.u64.bits (IntKind.u64.wrap (b.2.1*2^min (1:Int).toNat IntKind.u64.bits))|||BitVec.ofInt IntKind.u64.bits 1).toNat),(IntKind.u64.wrap ((IntKind.u64.wrap (BitVec.ofInt IntKind.u64.bits (IntKind.u64.wrap (b.2.2.1*2^min (1:Int).toNat IntKind.u64.bits))|||BitVec.ofInt IntKind.u64.bits (b.1.fdiv (2^min (63:Int).toNat IntKind.u64.bits))).toNat)-c)),(IntKind.i64.wrap (b.2.2.2+1))))<|
 a ((IntKind.u64.wrap (b.1*2^min (1:Int).toNat IntKind.u64.bits)),(IntKind.u64.wrap (b.2.1*2^min (1:Int).toNat IntKind.u64.bits)),(IntKind.u64.wrap (BitVec.ofInt IntKind.u64.bits (IntKind.u64.wrap (b.2.2.1*2^min (1:Int).toNat IntKind.u64.bits))|||BitVec.ofInt IntKind.u64.bits (b.1.fdiv (2^min (63:Int).toNat IntKind.u64.bits))).toNat),(IntKind.i64.wrap (b.2.2.2+1))))<|
 R (b.2.1,0):=bt Tryz.func250 (uz 0x702208120104a009008001106080041001241241001)
instance Y9(a b:Int):bs (RW a b) λR=>
 aq (a==0) (
 aq (b==0) (
 R (if(18446744073709551615:Int)<(18446744073709551615:Int)then(18446744073709551615:Int)else(18446744073709551615:Int)))<|
 R (if b<18446744073709551615 then b else 18446744073709551615))<|
 aq (b==0) (
 R (if 18446744073709551615<a then 18446744073709551615 else a))<|
 R (if b<a then b else a):=bt Tryz.func153 (uz 0x23)
instance Z2(aQ tso most:Int):bs (SE aQ tso most) λR=>
 aM (IG 2 (IntKind.u64.wrap (if tso>0 then tso else 0))) λa=>
 R (if(if(IntKind.u64.wrap (if most>0 then most else 0))<(IntKind.u64.wrap (aQ.tdiv 1024))then(IntKind.u64.wrap (if most>0 then most else 0))else(IntKind.u64.wrap (aQ.tdiv 1024)))>a then(if(IntKind.u64.wrap (if most>0 then most else 0))<(IntKind.u64.wrap (aQ.tdiv 1024))then(IntKind.u64.wrap (if most>0 then most else 0))else(IntKind.u64.wrap (aQ.tdiv 1024)))else a):=bt Tryz.func209 (uz 8)
instance aaS(a b:Int):bs (IG a b) λR=>
 aq (decide (b>0)) (
 d_ (b≠0)<|
 aq (decide (a>(IntKind.u64.wrap ((18446744073709551615:Int).tdiv b)))) (
 R 18446744073709551615)<|
 R (IntKind.u64.wrap (a*b)))<|
 R (IntKind.u64.wrap (a*b)):=bt Tryz.func263 (uz 0xa)
instance ZU(a b c:Int):bs (Am a b c) λR=>
 bE (SZ a b) λ(d:Int×Int)=>
 aq ((d.1==0)&&(d.2==0)) (
 R 0)<|
 bE (S4 d.1 d.2 c) λ(e:Int×Int)=>
 aq (e.2 !=0) (
 R 18446744073709551615)<|
 R e.1:=bt Tryz.func201 (uz 0x19)
instance ZO(bw gain:Int):bs (OD bw gain) λR=>
 aM (Am bw gain 256) λa=>
 R a:=bt Tryz.func195 (uz 8)
instance Zb(aQ bn:Int):bs (RY aQ bn) λR=>
 d_ ((IntKind.u64.wrap (if(if(9000:Int)<bn then(9000:Int)else bn)>(100:Int)then(if(9000:Int)<bn then(9000:Int)else bn)else(100:Int)))≠0)<|
 d_ ((if(if(9000:Int)<bn then(9000:Int)else bn)>(100:Int)then(if(9000:Int)<bn then(9000:Int)else bn)else(100:Int))≠0)<|
 R (IntKind.i64.wrap ((IntKind.i64.wrap (if(if(IntKind.u64.wrap (IntKind.i64.wrap ((65536:Int).tdiv (if(if 9000<bn then 9000 else bn)>100 then(if 9000<bn then 9000 else bn)else 100))))<(IntKind.u64.wrap ((IntKind.u64.wrap (aQ.tdiv 1024)).tdiv (IntKind.u64.wrap (if(if 9000<bn then 9000 else bn)>100 then(if 9000<bn then 9000 else bn)else 100))))then(IntKind.u64.wrap (IntKind.i64.wrap ((65536:Int).tdiv (if(if 9000<bn then 9000 else bn)>100 then(if 9000<bn then 9000 else bn)else 100))))else(IntKind.u64.wrap ((IntKind.u64.wrap (aQ.tdiv 1024)).tdiv (IntKind.u64.wrap (if(if 9000<bn then 9000 else bn)>100 then(if 9000<bn then 9000 else bn)else 100)))))>2 then(if(IntKind.u64.wrap (IntKind.i64.wrap ((65536:Int).tdiv (if(if 9000<bn then 9000 else bn)>100 then(if 9000<bn then 9000 else bn)else 100))))<(IntKind.u64.wrap ((IntKind.u64.wrap (aQ.tdiv 1024)).tdiv (IntKind.u64.wrap (if(if 9000<bn then 9000 else bn)>100 then(if 9000<bn then 9000 else bn)else 100))))then(IntKind.u64.wrap (IntKind.i64.wrap ((65536:Int).tdiv (if(if 9000<bn then 9000 else bn)>100 then(if 9000<bn then 9000 else bn)else 100))))else(IntKind.u64.wrap ((IntKind.u64.wrap (aQ.tdiv 1024)).tdiv (IntKind.u64.wrap (if(if 9000<bn then 9000 else bn)>100 then(if 9000<bn then 9000 else bn)else 100)))))else 2))*(if(if 9000<bn then 9000 else bn)>100 then(if 9000<bn then 9000 else bn)else 100))):=bt Tryz.func156 (uz 0x10)
instance ZR(a b:Int):bs (vQ a b) λR=>
 aq (decide (a<b)) (
 R 0)<|
 R (IntKind.u64.wrap (a-b)):=bt Tryz.func198 (uz 0xa)
instance aaE(a b:Int):bs (SZ a b) λR=>
 d_ (0≤(32:Int))<|
 d_ (0≤(32:Int))<|
 d_ (0≤(32:Int))<|
 d_ (0≤(32:Int))<|
 d_ (0≤(32:Int))<|
 d_ (0≤(32:Int))<|
 d_ (0≤(32:Int))<|
 R ((IntKind.u64.wrap ((IntKind.u64.wrap ((IntKind.u64.wrap ((IntKind.u64.wrap ((a.fdiv (2^min (32:Int).toNat IntKind.u64.bits))*(b.fdiv (2^min (32:Int).toNat IntKind.u64.bits))))+((IntKind.u64.wrap ((a.fdiv (2^min (32:Int).toNat IntKind.u64.bits))*(IntKind.u64.wrap (BitVec.ofInt IntKind.u64.bits b&&&BitVec.ofInt IntKind.u64.bits 4294967295).toNat))).fdiv (2^min (32:Int).toNat IntKind.u64.bits))))+((IntKind.u64.wrap ((IntKind.u64.wrap (BitVec.ofInt IntKind.u64.bits a&&&BitVec.ofInt IntKind.u64.bits 4294967295).toNat)*(b.fdiv (2^min (32:Int).toNat IntKind.u64.bits)))).fdiv (2^min (32:Int).toNat IntKind.u64.bits))))+((IntKind.u64.wrap ((IntKind.u64.wrap (((IntKind.u64.wrap ((IntKind.u64.wrap (BitVec.ofInt IntKind.u64.bits a&&&BitVec.ofInt IntKind.u64.bits 4294967295).toNat)*(IntKind.u64.wrap (BitVec.ofInt IntKind.u64.bits b&&&BitVec.ofInt IntKind.u64.bits 4294967295).toNat))).fdiv (2^min (32:Int).toNat IntKind.u64.bits))+(IntKind.u64.wrap (BitVec.ofInt IntKind.u64.bits (IntKind.u64.wrap ((a.fdiv (2^min (32:Int).toNat IntKind.u64.bits))*(IntKind.u64.wrap (BitVec.ofInt IntKind.u64.bits b&&&BitVec.ofInt IntKind.u64.bits 4294967295).toNat)))&&&BitVec.ofInt IntKind.u64.bits 4294967295).toNat)))+(IntKind.u64.wrap (BitVec.ofInt IntKind.u64.bits (IntKind.u64.wrap ((IntKind.u64.wrap (BitVec.ofInt IntKind.u64.bits a&&&BitVec.ofInt IntKind.u64.bits 4294967295).toNat)*(b.fdiv (2^min (32:Int).toNat IntKind.u64.bits))))&&&BitVec.ofInt IntKind.u64.bits 4294967295).toNat))).fdiv (2^min (32:Int).toNat IntKind.u64.bits)))),(IntKind.u64.wrap (BitVec.ofInt IntKind.u64.bits (IntKind.u64.wrap ((IntKind.u64.wrap ((IntKind.u64.wrap (((IntKind.u64.wrap ((IntKind.u64.wrap (BitVec.ofInt IntKind.u64.bits a&&&BitVec.ofInt IntKind.u64.bits 4294967295).toNat)*(IntKind.u64.wrap (BitVec.ofInt IntKind.u64.bits b&&&BitVec.ofInt IntKind.u64.bits 4294967295).toNat))).fdiv (2^min (32:Int).toNat IntKind.u64.bits))+(IntKind.u64.wrap (BitVec.ofInt IntKind.u64.bits (IntKind.u64.wrap ((a.fdiv (2^min (32:Int).toNat IntKind.u64.bits))*(IntKind.u64.wrap (BitVec.ofInt IntKind.u64.bits b&&&BitVec.ofInt IntKind.u64.bits 4294967295).toNat)))&&&BitVec.ofInt IntKind.u64.bits 4294967295).toNat)))+(IntKind.u64.wrap (BitVec.ofInt IntKind.u64.bits (IntKind.u64.wrap ((IntKind.u64.wrap (BitVec.ofInt IntKind.u64.bits a&&&BitVec.ofInt IntKind.u64.bits 4294967295).toNat)*(b.fdiv (2^min (32:Int).toNat IntKind.u64.bits))))&&&BitVec.ofInt IntKind.u64.bits 4294967295).toNat)))*2^min (32:Int).toNat IntKind.u64.bits))|||BitVec.ofInt IntKind.u64.bits (IntKind.u64.wrap (BitVec.ofInt IntKind.u64.bits (IntKind.u64.wrap ((IntKind.u64.wrap (BitVec.ofInt IntKind.u64.bits a&&&BitVec.ofInt IntKind.u64.bits 4294967295).toNat)*(IntKind.u64.wrap (BitVec.ofInt IntKind.u64.bits b&&&BitVec.ofInt IntKind.u64.bits 4294967295).toNat)))&&&BitVec.ofInt IntKind.u64.bits 4294967295).toNat)).toNat)):=bt Tryz.func249 (uz 0x14)
instance aaQ(bw bG gain tso bn:Int):bs (S_ bw bG gain tso bn) λR=>
 aq (bG==0) (
 aM (IG 10 bn) λa=>
 R a)<|
 aM (IF bw bG gain) λb=>
 aM (IG 3 tso) λc=>
 aM (pO b c) λd=>
 aM (IG 4 bn) λe=>
 R (if e>d then e else d):=bt Tryz.func261 (uz 0xa)
instance i64(b:Option Pt)(sock:Int):bs (XI b sock) λR=>
 new [zi,zi,zi,zi,zi,zi,zi,zi] λa=>
 aq ((decide (sock<0))||(decide (sock≥8))) (
 st ⟨a,0⟩ [zi,zi,zi,zi,zi,zi,zi,zi]<|
 ld nz ⟨a,0⟩ λc=>
 R (c,8))<|
 deref b λd=>
 d_ (0≤sock∧sock<8)<|
 ld nz ⟨d.b,d.o+sock.toNat*8⟩ λe=>
 new [zi,zi,zi,zi,zi,zi,zi,zi] λf=>
 st ⟨f,0⟩ (Ks.mk nz e)<|
 st ⟨f,0⟩ [.int .i64 sock]<|
 ld nz ⟨f,0⟩ λg=>
 st ⟨a,0⟩ (Ks.mk nz g)<|
 ld nz ⟨a,0⟩ λh=>
 R (h,0):=bt Tryz.func64 (uz 0x24)
instance i98(b:Option Pt)(sock fate:Int):bs (TG b sock fate) λR=>
 aq ((decide (sock<0))||(decide (sock≥8))) (
 R 8)<|
 aq ((decide (fate<0))||(decide (fate>5))) (
 R 1)<|
 deref b λa=>
 d_ (0≤sock∧sock<8)<|
 join [] (λc=>
 aq (fate !=0) (
 deref (some ⟨a.b,a.o+sock.toNat*8⟩) λd=>
 gw d 7 λe=>
 aq (e==0) (
 R 7)<|
 c ())<|
 c ()) λ(f:Unit)=>
 deref (some ⟨a.b,a.o+sock.toNat*8⟩) λg=>
 st g [.int .i64 sock]<|
 bF<|
 deref (some ⟨a.b,a.o+sock.toNat*8⟩) λh=>
 deref (some ⟨a.b,a.o+sock.toNat*8⟩) λi=>
 d_ (0≤fate∧fate<6)<|
 de ⟨h.b,h.o+1+fate.toNat*1⟩ λj=>
 d_ (0≤fate∧fate<6)<|
 st ⟨i.b,i.o+1+fate.toNat*1⟩ [.int .i64 (IntKind.i64.wrap (j+1))]<|
 aq (fate==0) (
 deref (some ⟨a.b,a.o+sock.toNat*8⟩) λk=>
 gw k 7 λl=>
 deref (some ⟨a.b,a.o+sock.toNat*8⟩) λm=>
 so m 7 [.int .i64 (IntKind.i64.wrap (l+1))]<|
 R 0)<|
 deref (some ⟨a.b,a.o+sock.toNat*8⟩) λn=>
 gw n 7 λp=>
 deref (some ⟨a.b,a.o+sock.toNat*8⟩) λq=>
 so q 7 [.int .i64 (IntKind.i64.wrap (p-1))]<|
 R 0:=bt Tryz.func98 (uz 0x4a06972aa6522691855121292034479510a5081947025943040049004001241241001)
instance YW(b:Option Pt)(upto:Int):bs (RR b upto) λR=>
 deref b λa=>
 cZ a 2 λc=>
 aq (decide (upto>c)) (
 R 11)<|
 deref b λd=>
 cZ d 1 λe=>
 deref b λf=>
 so f 1 [.int .u64 (if upto>e then upto else e)]<|
 R 0:=bt Tryz.func140 (uz 0x16)
instance Z5(b:Option Pt)(most:Int):bs (SH b most) λR=>
 new [zu,zu] λa=>
 join [] (λc=>
 bF<|
 aq (decide (most<1)) (
 st ⟨a,0⟩ [zu,zu]<|
 ld cr ⟨a,0⟩ λ(d:Int×Int)=>
 R (d,false))<|
 deref b λe=>
 deref b λf=>
 cZ e 2 λg=>
 cZ f 3 λh=>
 aq (g==h) (
 st ⟨a,0⟩ [zu,zu]<|
 ld cr ⟨a,0⟩ λ(i:Int×Int)=>
 R (i,false))<|
 c ()) λ(j:Unit)=>
 bF<|
 deref b λk=>
 deref b λl=>
 deref b λm=>
 deref b λn=>
 cZ k 2 λo=>
 cZ l 2 λp=>
 cZ m 3 λq=>
 cZ n 2 λr=>
 new [zu,zu] λs=>
 jy n 2 r<|
 jy m 3 q<|
 jy l 2 p<|
 jy k 2 o<|
 st ⟨s,0⟩ [.int .u64 o,.int .u64 (IntKind.u64.wrap (p+(if(IntKind.u64.wrap (q-r))<(IntKind.u64.wrap most)then(IntKind.u64.wrap (q-r))else(IntKind.u64.wrap most))))]<|
 bz ⟨s,1⟩ λt=>
 deref b λu=>
 so u 2 [.int .u64 t]<|
 ld cr ⟨s,0⟩ λ(v:Int×Int)=>
 st ⟨a,0⟩ (Ks.mk cr v)<|
 ld cr ⟨a,0⟩ λ(w:Int×Int)=>
 R (w,true):=bt Tryz.func212 (uz 0x2209865ea5a29545699185298da4e989e4a944d1c340c1823cb2450403a500a94122500494002550304c81c24ca5b3492ed6892a93091a93c92692c91693892292891292401e92400e90810409460c1004001)
instance i92(b:Option Pt)(n:Int):bs (WD b n) λR=>
 aq (decide (n<1)) (
 R 1)<|
 bF<|
 deref b λa=>
 deref b λc=>
 deref b λd=>
 de a λe=>
 cZ c 3 λf=>
 cZ d 1 λg=>
 aq (decide ((IntKind.u64.wrap n)>(IntKind.u64.wrap ((IntKind.u64.wrap (if(if 1073741824<e then 1073741824 else e)>0 then(if 1073741824<e then 1073741824 else e)else 0))-(IntKind.u64.wrap (f-g)))))) (
 R 5)<|
 deref b λh=>
 cZ h 3 λi=>
 deref b λj=>
 so j 3 [.int .u64 (IntKind.u64.wrap (i+(IntKind.u64.wrap n)))]<|
 R 0:=bt Tryz.func92 (uz 0x1a82146680e4291857db3e910e28334908c20100b9401e50009470c1241001)
instance Y6(l:Option Pt):bs (RV l) λR=>
 deref l λa=>
 ec a λb=>
 aq (decide (((b.len:Nat):Int)>0)) (
 deref l λc=>
 ec c λd=>
 idx d 0 1 λe=>
 de e λf=>
 R (f,true,true))<|
 deref l λg=>
 iS g 1 λh=>
 aq (decide (((h.len:Nat):Int)>0)) (
 deref l λi=>
 iS i 1 λj=>
 idx j 0 1 λk=>
 de k λm=>
 R (m,false,true))<|
 R (0,false,false):=bt Tryz.func150 (uz 0x25)
instance aaz(l:Option Pt)(sock:Int):bs (ON l sock) λR=>
 deref l λa=>
 ec a λb=>
 bO (OU b sock) λc=>
 aq c (
 R 1)<|
 deref l λd=>
 iS d 1 λe=>
 bO (OU e sock) λf=>
 aq f (
 R 2)<|
 R 0:=bt Tryz.func244 (uz 0x1cd081001)
instance Z8(l:Option Pt)(sock:Int)(fresh:Bool):bs (KA l sock fresh) λR=>
 aq ((decide (sock<0))||(decide (sock≥8))) (
 R 8)<|
 bg (ON l sock) λa=>
 aq (a !=0) (
 R 6)<|
 aq fresh (
 deref l λb=>
 ec b λc=>
 mw 1 ⟨none,0,0⟩ c λd=>
 new [.int .i64 sock] λe=>
 mw 1 d ⟨some ⟨e,0⟩,1,1⟩ λf=>
 deref l λg=>
 st g [.sl f]<|
 R 0)<|
 deref l λh=>
 iS h 1 λi=>
 mw 1 ⟨none,0,0⟩ i λj=>
 new [.int .i64 sock] λk=>
 mw 1 j ⟨some ⟨k,0⟩,1,1⟩ λm=>
 deref l λn=>
 so n 1 [.sl m]<|
 R 0:=bt Tryz.func215 (uz 0x26)
instance ZP(l:Option Pt)(sock:Int):bs (OE l sock) λR=>
 bg (ON l sock) λa=>
 bF<|
 deref l λb=>
 deref l λc=>
 ec b λd=>
 iS c 1 λe=>
 bE (OO d sock) λ(f:Sl)=>
 ry c 1 e<|
 bE (OO e sock) λ(g:Sl)=>
 deref l λh=>
 st h [.sl f]<|
 deref l λi=>
 so i 1 [.sl g]<|
 R (a !=0):=bt Tryz.func196 (uz 0x7822793aa14a52d1960610a8f28e95d70da973c7a8b14a1090c13250089411a50029400650009490c1001001)
instance aaA(l:Sl)(x:Int):bs (OO l x) λR=>
 loop [.sl,.int .i64] (⟨none,0,0⟩,0) λa (b:Sl×Int)=>
 aq (decide (b.2<((l.len:Nat):Int))) (
 idx l b.2 1 λc=>
 de c λd=>
 aq (d !=x) (
 idx l b.2 1 λe=>
 de e λf=>
 new [.int .i64 f] λg=>
 mw 1 b.1 ⟨some ⟨g,0⟩,1,1⟩ λh=>
 a (h,(IntKind.i64.wrap (b.2+1))))<|
 a (b.1,(IntKind.i64.wrap (b.2+1))))<|
 R b.1:=bt Tryz.func245 (uz 0x7008081201046105086080041001001)
instance aaP(c:Option Pt):bs (S9 c) λR=>
 deref c λa=>
 de a λb=>
 aq (b==0) (
 R 320)<|
 aq (b==1) (
 R 192)<|
 R 256:=bt Tryz.func260 (uz 0x1cd080041001)
instance aaN(c:Option Pt)(ao phase:Int):bs (KM c ao phase) λR=>
 deref c λa=>
 st a [.int .i64 (phase.tmod 8)]<|
 deref c λb=>
 so b 1 [.int .u64 ao]<|
 deref c λd=>
 de d λe=>
 aq (decide (e<0)) (
 deref c λf=>
 de f λg=>
 deref c λh=>
 st h [.int .i64 (IntKind.i64.wrap (g+8))]<|
 R ())<|
 R ():=bt Tryz.func258 (uz 0xb)
instance aaK(c:Option Pt)(ao bG be flight up one:Int):bs (S6 c ao bG be flight up one) λR=>
 deref c λa=>
 cZ a 1 λb=>
 aM (vQ ao b) λd=>
 join cb (λe=>
 deref c λf=>
 de f λg=>
 aq (g==0) (
 e ((decide (d>bG))&&((decide (be>0))||(decide (flight≥up)))))<|
 aq (g==1) (
 e ((decide (d>bG))||(decide (flight≤one))))<|
 e (decide (d>bG))) λ(h:Bool)=>
 aq h (
 deref c λi=>
 de i λj=>
 bS (KM c ao (IntKind.i64.wrap (j+1))) λk=>
 R h)<|
 R h:=bt Tryz.func255 (uz 0x1240200108f044001001)
instance Yi(m:Option Pt):bs (Oc m) λR=>
 new [zi,zi,zu,zu,zu,zu,zu,zu,.bool false,.bool false] λa=>
 bF<|
 deref m λb=>
 deref m λc=>
 deref m λd=>
 deref m λe=>
 deref m λf=>
 deref m λg=>
 deref m λh=>
 deref m λi=>
 deref m λj=>
 gw b 23 λk=>
 cZ c 24 λl=>
 cZ d 25 λn=>
 cZ f 26 λo=>
 cZ e 9 λp=>
 cZ g 2 λq=>
 gw h 7 λr=>
 ob i 6 λs=>
 ob j 15 λt=>
 aM (BI m) λu=>
 WM j 15 t<|
 WM i 6 s<|
 FO h 7 r<|
 jy g 2 q<|
 jy e 9 p<|
 jy f 26 o<|
 jy d 25 n<|
 jy c 24 l<|
 FO b 23 k<|
 st ⟨a,0⟩ [.int .i64 k,.int .i64 r,.int .u64 l,.int .u64 n,.int .u64 u,.int .u64 p,.int .u64 o,.int .u64 q,.bool s,.bool t]<|
 ld bC ⟨a,0⟩ λv=>
 R v:=bt Tryz.func100 (uz 0x83c0acabbdb1b278de38a1ab2bf3cd9baaa5d659708256d2e699749257da5912c70f8a25ce395e65540a182de79728a575850f2450409a50219407250179404e500e9403250089401250009420c1001)
end Go.X
