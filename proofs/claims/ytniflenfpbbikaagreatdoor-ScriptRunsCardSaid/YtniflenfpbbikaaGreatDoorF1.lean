/- Readings of functions. -/
import Derived.Test.YtniflenfpbbikaaGreatDoorG
set_option linter.all false
namespace Go.X
open IntKind (u64 i64)
open Go.Proofs
instance abQ(d o a):bF (Ut d o a) λR=>
 new (Ks.mk aW o) λc=>
 aC d λe=>
 dD e 9 λf=>
 join [] (λg=>
 join cb (λh=>
 aC d λi=>
 gY i 23 λj=>
 aq (j==2) (
 aC d λk=>
 oI k 15 λl=>
 h (!l))<|
 h false) λ(m:Bool)=>
 aq m (
 bR<|
 aC d λn=>
 bI ⟨c,0⟩ λp=>
 bI ⟨c,6⟩ λq=>
 bI ⟨c,7⟩ λr=>
 aU (CG d) λs=>
 ct ⟨c,7⟩ (Ks.mk cu r)<|
 ct ⟨c,6⟩ (Ks.mk cu q)<|
 ct ⟨c,0⟩ (Ks.mk cu p)<|
 aU (JX s f 320) λt=>
 ct ⟨c,7⟩ (Ks.mk cu r)<|
 ct ⟨c,6⟩ (Ks.mk cu q)<|
 ct ⟨c,0⟩ (Ks.mk cu p)<|
 aU (CG d) λu=>
 ct ⟨c,7⟩ (Ks.mk cu r)<|
 ct ⟨c,6⟩ (Ks.mk cu q)<|
 ct ⟨c,0⟩ (Ks.mk cu p)<|
 aU (JX u f 256) λv=>
 ct ⟨c,7⟩ (Ks.mk cu r)<|
 ct ⟨c,6⟩ (Ks.mk cu q)<|
 ct ⟨c,0⟩ (Ks.mk cu p)<|
 cg (U3 (some ⟨n.b,n.o+7⟩) p f q r t v) λw=>
 g ())<|
 g ()) λ(x:Unit)=>
 bR<|
 aC d λy=>
 rC ⟨c,8⟩ λz=>
 aC d λA=>
 ga A 1 λB=>
 aC B λC=>
 eA (0≤(0:Int)∧(0:Int)<3)<|
 bI ⟨C.b,C.o+4+(0:Int).toNat*1⟩ λD=>
 cg (U5 (some ⟨y.b,y.o+4⟩) a z D) λE=>
 join [] (λF=>
 join cb (λG=>
 aC d λH=>
 gY H 23 λI=>
 aq (I==0) (
 aC d λJ=>
 oI J 6 λK=>
 G K)<|
 G false) λ(L:Bool)=>
 aq L (
 aC d λM=>
 so M 23 [aE 1]<|
 F ())<|
 F ()) λ(N:Unit)=>
 join [] (λO=>
 join cb (λQ=>
 bR<|
 aC d λS=>
 gY S 23 λT=>
 aq (T==1) (
 aq (decide (f>0)) (
 bI ⟨c,7⟩ λU=>
 aU (CG d) λV=>
 ct ⟨c,7⟩ (Ks.mk cu U)<|
 aU (JX V f 256) λX=>
 ct ⟨c,7⟩ (Ks.mk cu U)<|
 Q (decide (U≤X)))<|
 Q false)<|
 Q false) λ(Y:Bool)=>
 aq Y (
 aC d λZ=>
 so Z 23 [aE 2]<|
 bR<|
 aC d λa0=>
 bI ⟨c,0⟩ λa1=>
 cj (Mj (some ⟨a0.b,a0.o+7⟩) a1 2) λa2=>
 O ())<|
 O ()) λ(a3:Unit)=>
 bR<|
 aC d λa4=>
 bI ⟨c,0⟩ λa5=>
 bI ⟨c,4⟩ λa6=>
 bI ⟨c,7⟩ λa7=>
 aC d λa8=>
 bI a8 λa9=>
 bQ (U6 (some ⟨a4.b,a4.o+9⟩) a5 a6 a a7 (u64.wrap (4*a9))) λ(b0:Bool×Bool)=>
 join [] (λb1=>
 aq b0.1 (
 bR<|
 aC d λb2=>
 aC d λb3=>
 dD b2 30 λb4=>
 dD b3 25 λb5=>
 aC d λb6=>
 so b6 30 [aB (if b5>b4 then b5 else b4)]<|
 aC d λb7=>
 so b7 23 [aE 3]<|
 b1 ())<|
 b1 ()) λ(b8:Unit)=>
 aq b0.2 (
 bR<|
 aC d λb9=>
 aC d λc0=>
 dD b9 25 λc1=>
 dD c0 30 λc2=>
 aC d λc3=>
 so c3 25 [aB (if c2>c1 then c2 else c1)]<|
 aC d λc4=>
 so c4 30 [zu]<|
 aC d λc5=>
 so c5 23 [zi]<|
 aC d λc6=>
 oI c6 6 λc7=>
 aq c7 (
 aC d λc8=>
 so c8 23 [aE 2]<|
 bR<|
 aC d λc9=>
 bI ⟨c,0⟩ λd0=>
 cj (Mj (some ⟨c9.b,c9.o+7⟩) d0 2) λd1=>
 R ())<|
 R ())<|
 R ():=bG Tryz.func188 (uz 0x8154c5a821011039400259bffc30010400608949a14e54d29604667d09523e579c3aa3513256d72e92862452040079400e500294006500094cfff0c104004081f42678f9523a575b36a3112e56962a92452041c30069400a5001940025eff0c10010048225268539904a54119507da6175533fa38d3022c91840402a51089421e51059440e5000968fc30408154c5a8210110394002587f0c0041821691a6071a42d7de68fb9d68da9b68ba5a18ea5a00ca5a10aa496162295d61e95861a91440c204002533f0c27bf0440041c0089fc11001207965133b234c2ca248087141006944125083940025b4304082279a6165534be86046a7cf99d70da9b2e60891c404642500e94632500a94422510694616510394002568304009a044004001001)
instance abT(d o a):bF (Uv d o a) λR=>
 new (Ks.mk aW o) λb=>
 join cb (λc=>
 bI ⟨b,6⟩ λe=>
 aq (decide (e>0)) (
 aC d λf=>
 oI f 27 λg=>
 c (!g))<|
 c false) λ(h:Bool)=>
 aq h (
 aC d λi=>
 so i 27 [bc true]<|
 aC d λj=>
 so j 28 [bc true]<|
 bR<|
 bI ⟨b,1⟩ λk=>
 bI ⟨b,7⟩ λl=>
 aC d λm=>
 aC d λn=>
 dD m 30 λp=>
 dD n 25 λq=>
 aU (qH k l) λr=>
 lJ n 25 q<|
 lJ m 30 p<|
 aC d λs=>
 so s 29 [aB r]<|
 aC d λt=>
 so t 30 [aB (if q>p then q else p)]<|
 R ())<|
 aC d λu=>
 oI u 27 λv=>
 aq (!v) (
 R ())<|
 join [] (λw=>
 aq a (
 aC d λx=>
 so x 28 [bc false]<|
 w ())<|
 w ()) λ(y:Unit)=>
 bR<|
 bI ⟨b,1⟩ λz=>
 aC d λA=>
 dD A 29 λB=>
 aq (decide (z≥B)) (
 aC d λC=>
 so C 27 [bc false]<|
 aC d λD=>
 so D 28 [bc false]<|
 bR<|
 aC d λE=>
 aC d λF=>
 dD E 25 λG=>
 dD F 30 λH=>
 aC d λI=>
 so I 25 [aB (if H>G then H else G)]<|
 aC d λJ=>
 gY J 23 λK=>
 aq (K !=3) (
 aC d λL=>
 so L 30 [zu]<|
 R ())<|
 R ())<|
 R ():=bG Tryz.func191 (uz 0x22071a32a2d12a56552692041c3182005940065000940fc3040041816486a451030400a51009720c120010804002092056a8d49524e58974aa4514255941aa7db3e938a34930814300b9401e51049440a50019400255430400410023c1101001)
instance abU(d o a a'):bF (Uw d o a a') λR=>
 new (Ks.mk aW o) λb=>
 bR<|
 aC d λc=>
 bI ⟨b,6⟩ λe=>
 aC d λf=>
 dD c 25 λg=>
 bI f λh=>
 aU (wR g e) λi=>
 ct f (Ks.mk cu h)<|
 aC d λj=>
 so j 25 [aB (if h>i then h else i)]<|
 bR<|
 aC d λk=>
 aC d λl=>
 bI l λm=>
 dD k 9 λn=>
 aU (CG d) λp=>
 lJ k 9 n<|
 ct l (Ks.mk cu m)<|
 aU (U9 p n a' a m) λq=>
 join [] (λr=>
 aC d λs=>
 oI s 28 λt=>
 aq t (
 bR<|
 aC d λu=>
 bI ⟨b,7⟩ λv=>
 bI ⟨b,5⟩ λw=>
 dD u 25 λx=>
 aU (qH v w) λy=>
 lJ u 25 x<|
 aC d λz=>
 so z 25 [aB (if y>x then y else x)]<|
 r ())<|
 bI ⟨b,5⟩ λA=>
 aq (A==0) (
 r ())<|
 aC d λB=>
 oI B 6 λC=>
 aq C (
 bR<|
 aC d λD=>
 bI ⟨b,5⟩ λE=>
 dD D 25 λF=>
 aU (qH F E) λG=>
 aC d λH=>
 so H 25 [aB (if q<G then q else G)]<|
 r ())<|
 join cb (λI=>
 bR<|
 aC d λJ=>
 dD J 25 λK=>
 aq (decide (K<q)) (
 I true)<|
 bI ⟨b,1⟩ λL=>
 aC d λM=>
 bI M λN=>
 I (decide (L<(u64.wrap (10*N))))) λ(O:Bool)=>
 aq O (
 bR<|
 aC d λQ=>
 bI ⟨b,5⟩ λS=>
 dD Q 25 λT=>
 aU (qH T S) λU=>
 aC d λV=>
 so V 25 [aB U]<|
 r ())<|
 r ()) λ(X:Unit)=>
 bR<|
 aC d λY=>
 aC d λZ=>
 dD Y 25 λa0=>
 bI Z λa1=>
 aC d λa2=>
 so a2 25 [aB (if(u64.wrap (4*a1))>a0 then(u64.wrap (4*a1))else a0)]<|
 aC d λa3=>
 gY a3 23 λa4=>
 aq (a4==3) (
 aC d λa5=>
 bI a5 λa6=>
 aC d λa7=>
 so a7 25 [aB (u64.wrap (4*a6))]<|
 R ())<|
 R ():=bG Tryz.func192 (uz 0x881d6cda8c44b95a54aa492041c3182005940065000969fc304081a60aa89448957547a840c60851650019400257ff0c18204267d73e97995ceb5d5cda5c5cca5b5cba5a5caa585c8a57009a57147a465541690c204812500094ffc308ffc112071a32a2d12a56582695d51ea1031822089451650019400250bf0c100100100181d6cda8c44b95a54aa595c9a840c8182147945165001940025a8304004200481e3a675961748dd9106618c14b10a0c02650889431e50029400255c30607dd3ea3893657183293cd1ea2c42832460802251459400650009480c1001)
instance aaJ(bt):bF (TY bt) λR=>
 lY (Uo 10 false) λa=>
 new [aB (if(if 9000<bt then 9000 else bt)>100 then(if 9000<bt then 9000 else bt)else 100),.ptr a,zu,zu,zu,zi,bc false,zi,zu,zu,zu,bc false,bc false,bc false,zu,bc false,bc false,zu,zi,zu,zu,zu,zu,zi,zu,zu,aB 739,bc false,bc false,zu,zu] λb=>
 aC (some ⟨b,0⟩) λc=>
 so c 25 [aB (u64.wrap (10*(if(if 9000<bt then 9000 else bt)>100 then(if 9000<bt then 9000 else bt)else 100)))]<|
 aC (some ⟨b,0⟩) λd=>
 dD d 25 λe=>
 aU (Qj (u64.wrap (e*1000)) 739) λf=>
 aC (some ⟨b,0⟩) λg=>
 so g 24 [aB f]<|
 R (some ⟨b,0⟩):=bG Tryz.func114 (uz 0x14)
instance abH(kP least):bF (Uo kP least) λR=>
 new [aB kP,zu,zu,zu,zu,zu,zu,zu,bc least] λa=>
 aq least (
 aC (some ⟨a,0⟩) λb=>
 so b 4 [aB 18446744073709551615,aB 18446744073709551615,aB 18446744073709551615]<|
 R (some ⟨a,0⟩))<|
 R (some ⟨a,0⟩):=bG Tryz.func179 (uz 0x27)
instance ac0(p start limited bw):bF (U5 p start limited bw) λR=>
 aC p λa=>
 oI a 2 λb=>
 aq ((b||(!start))||limited) (
 aC p λc=>
 oI c 2 λd=>
 R d)<|
 aC p λe=>
 bI e λf=>
 aU (Bo f 320 256) λg=>
 aq (decide (bw≥g)) (
 aC p λh=>
 st h [aB bw]<|
 aC p λi=>
 so i 1 [zi]<|
 R false)<|
 aC p λj=>
 gY j 1 λk=>
 aC p λl=>
 so l 1 [aE (i64.wrap (k+1))]<|
 aC p λm=>
 gY m 1 λn=>
 aC p λo=>
 so o 2 [bc (decide (n≥3))]<|
 aC p λq=>
 oI q 2 λr=>
 R r:=bG Tryz.func260 (uz 0x28)
instance abN(d o a):bF (Ur d o a) λR=>
 new (Ks.mk aW a) λb=>
 bR<|
 aC d λc=>
 bI ⟨b,6⟩ λe=>
 dD c 4 λf=>
 aU (qH f e) λg=>
 aC d λh=>
 so h 4 [aB g]<|
 aC d λi=>
 rC i λj=>
 aq j (
 join [] (λk=>
 aq o (
 aC d λl=>
 gY l 3 λm=>
 aC d λn=>
 so n 3 [aE (i64.wrap (m+1))]<|
 k ())<|
 k ()) λ(p:Unit)=>
 aC d λq=>
 gY q 3 λr=>
 aq (decide (r≥48)) (
 aC d λs=>
 st s [bc false]<|
 aC d λt=>
 so t 3 [zi]<|
 cj (Mh d) λu=>
 R ())<|
 R ())<|
 aC d λv=>
 oI v 1 λw=>
 aq (!w) (
 bI ⟨b,6⟩ λx=>
 aq (decide (x>0)) (
 ld aW ⟨b,0⟩ λy=>
 cj (Qx d y) λz=>
 R ())<|
 R ())<|
 rC ⟨b,8⟩ λA=>
 aq A (
 cj (Mh d) λB=>
 R ())<|
 join [] (λC=>
 aq o (
 aC d λD=>
 gY D 3 λE=>
 aC d λF=>
 so F 3 [aE (i64.wrap (E+1))]<|
 C ())<|
 C ()) λ(G:Unit)=>
 aC d λH=>
 gY H 3 λI=>
 aq (decide (I>16)) (
 cj (Mh d) λJ=>
 R ())<|
 join cb (λK=>
 aC d λL=>
 gY L 3 λM=>
 aq (decide (M≥4)) (
 bI ⟨b,6⟩ λN=>
 K (decide (N>0)))<|
 K false) λ(O:Bool)=>
 aq O (
 ld aW ⟨b,0⟩ λQ=>
 cj (UY d Q) λS=>
 R ())<|
 R ():=bG Tryz.func185 (uz 0x700227f044001001088004241a410182001010010603cd2aa24622530a1ea1031821459400650009450c1001)
instance acQ(p s):bF (Qx p s) λR=>
 new (Ks.mk aW s) λa=>
 aC p λb=>
 so b 1 [bc true]<|
 aC p λc=>
 so c 3 [zi]<|
 bR<|
 bI ⟨a,0⟩ λd=>
 bI ⟨a,1⟩ λe=>
 aC p λf=>
 dD f 4 λg=>
 aC p λh=>
 so h 5 [aB d]<|
 ct ⟨a,1⟩ (Ks.mk cu e)<|
 aC p λi=>
 so i 6 [aB e]<|
 aC p λj=>
 so j 7 [aB g]<|
 R ():=bG Tryz.func250 (uz 0x8216d3aa04a531195f5d0a9e3e52ce95d38da8c28b94a2481840079431650c39400a5001940025243001001)
instance acR(d o):bF (UY d o) λR=>
 new (Ks.mk aW o) λa=>
 bR<|
 bI ⟨a,1⟩ λb=>
 aC d λc=>
 aC d λe=>
 aC d λf=>
 bI ⟨a,0⟩ λg=>
 aC d λh=>
 dD c 6 λi=>
 dD e 4 λj=>
 dD f 7 λk=>
 dD h 5 λl=>
 aU (wR b i) λm=>
 lJ h 5 l<|
 lJ f 7 k<|
 lJ e 4 j<|
 ct ⟨a,0⟩ (Ks.mk cu g)<|
 aU (wR j k) λn=>
 lJ h 5 l<|
 ct ⟨a,0⟩ (Ks.mk cu g)<|
 aU (wR g l) λp=>
 join [] (λq=>
 aq ((m==0)||(p==0)) (
 R ())<|
 aU (Bo m 50 256) λr=>
 aq (decide (n<r)) (
 R ())<|
 q ()) λ(s:Unit)=>
 aU (Bo m 1000000000 p) λt=>
 join cb (λu=>
 aC d λv=>
 dD v 2 λw=>
 aq (decide (w>0)) (
 aC d λx=>
 dD x 2 λy=>
 cg (Vr y t) λz=>
 u z)<|
 u false) λ(A:Bool)=>
 aq A (
 bR<|
 aC d λB=>
 aC d λC=>
 dD B 2 λD=>
 dD C 2 λE=>
 aC d λF=>
 so F 2 [aB (u64.wrap ((u64.wrap ((u64.wrap (D.tdiv 2))+(u64.wrap (t.tdiv 2))))+(u64.wrap ((u64.wrap ((E.tmod 2)+(t.tmod 2))).tdiv 2))))]<|
 aC d λG=>
 st G [bc true]<|
 aC d λH=>
 so H 3 [zi]<|
 R ())<|
 aC d λI=>
 so I 2 [aB t]<|
 ld aW ⟨a,0⟩ λJ=>
 cj (Qx d J) λK=>
 R ():=bG Tryz.func251 (uz 0x1c01e096356a5114e58994a9460790a58588a4d14c10b0cf2870873a50099471a5001940025e83041002e811010012001209d99a06263979a6896a9f6cfa8d246a9538a15434911344c2030404a50d09402e50079400a50c09470c1001)
instance acP(p):bF (Mh p) λR=>
 aC p λa=>
 so a 1 [bc false]<|
 aC p λb=>
 so b 2 [zu]<|
 R ():=bG Tryz.func249 .o
instance ac2(d o a a' a'' a'''):bF (U6 d o a a' a'' a''') λR=>
 join cb (λb=>
 aC d λc=>
 bI c λe=>
 aq (decide (e>0)) (
 aC d λf=>
 dD f 1 λg=>
 aU (qH g 10000000000) λh=>
 b (decide (o>h)))<|
 b false) λ(i:Bool)=>
 join [] (λj=>
 join cb (λk=>
 aq (decide (a>0)) (
 aC d λl=>
 bI l λm=>
 aq (m==0) (
 k true)<|
 aC d λn=>
 bI n λp=>
 k ((decide (a≤p))||i))<|
 k false) λ(q:Bool)=>
 aq q (
 aC d λr=>
 st r [aB a]<|
 aC d λs=>
 so s 1 [aB o]<|
 j ())<|
 j ()) λ(t:Unit)=>
 join cb (λu=>
 aq i (
 aC d λv=>
 oI v 2 λw=>
 u (!w))<|
 u false) λ(x:Bool)=>
 aq x (
 aC d λy=>
 so y 2 [bc true]<|
 aC d λz=>
 so z 3 [bc false]<|
 aC d λA=>
 so A 4 [bc false]<|
 R (true,false))<|
 aC d λB=>
 oI B 2 λC=>
 aq (!C) (
 R (false,false))<|
 aC d λD=>
 oI D 3 λE=>
 aq (!E) (
 aq (decide (a''≤a''')) (
 aU (qH o 200000000) λF=>
 aC d λG=>
 so G 3 [bc true]<|
 aC d λH=>
 so H 4 [bc false]<|
 aC d λI=>
 so I 5 [aB F]<|
 R (false,false))<|
 R (false,false))<|
 aC d λJ=>
 oI J 4 λK=>
 aC d λL=>
 so L 4 [bc (K||a')]<|
 join cb (λM=>
 aC d λN=>
 oI N 4 λO=>
 aq O (
 aC d λQ=>
 dD Q 5 λS=>
 M (decide (o>S)))<|
 M false) λ(T:Bool)=>
 aq T (
 aC d λU=>
 so U 1 [aB o]<|
 aC d λV=>
 so V 2 [bc false]<|
 aC d λX=>
 so X 3 [bc false]<|
 R (false,true))<|
 R (false,false):=bG Tryz.func262 (uz 0x1ce002e3f04404005b04904e00207f044047002c0110010008e044001)
instance abM(r s):bF (Uq r s) λR=>
 new (Ks.mk aW s) λa=>
 join [] (λb=>
 bR<|
 bI ⟨a,5⟩ λc=>
 aq (c==0) (
 R false)<|
 bI ⟨a,2⟩ λd=>
 aC r λe=>
 dD e 1 λf=>
 aq (decide (d<f)) (
 R false)<|
 b ()) λ(g:Unit)=>
 bI ⟨a,1⟩ λh=>
 aC r λi=>
 so i 1 [aB h]<|
 aC r λj=>
 bI j λk=>
 aC r λl=>
 st l [aB (u64.wrap (k+1))]<|
 R true:=bG Tryz.func184 (uz 0xb3203c82e938a20ab4d209a4c208a4b207a49205a48006a480c4a430810c09440c1004001)
instance aaN(d o a a'):bF (T1 d o a a') λR=>
 new (Ks.mk cw a') λb=>
 aC d λc=>
 bI c λe=>
 aU (qH e a) λf=>
 aC d λg=>
 st g [aB f]<|
 aC d λh=>
 so h 1 [aB o]<|
 join [] (λi=>
 bR<|
 aC d λj=>
 aC d λk=>
 bI j λl=>
 dD k 3 λm=>
 aq (decide (l>m)) (
 aC d λn=>
 so n 3 [zu]<|
 i ())<|
 i ()) λ(p:Unit)=>
 aC d λq=>
 dD q 5 λr=>
 aU (qH r a) λs=>
 aC d λt=>
 so t 5 [aB s]<|
 join [] (λu=>
 join cb (λv=>
 bR<|
 aC d λw=>
 oI w 4 λx=>
 aq (!x) (
 v true)<|
 bI ⟨b,1⟩ λy=>
 aC d λz=>
 dD z 6 λA=>
 v (decide (y≥A))) λ(B:Bool)=>
 aq B (
 bR<|
 bI ⟨b,1⟩ λC=>
 bI ⟨b,2⟩ λD=>
 rC ⟨b,4⟩ λE=>
 aC d λF=>
 so F 6 [aB C]<|
 ct ⟨b,4⟩ (Ks.mk cb E)<|
 ct ⟨b,2⟩ (Ks.mk cu D)<|
 aC d λG=>
 so G 7 [aB D]<|
 ct ⟨b,4⟩ (Ks.mk cb E)<|
 aC d λH=>
 so H 10 [bc E]<|
 bR<|
 bI ⟨b,0⟩ λI=>
 bI ⟨b,3⟩ λJ=>
 bI ⟨b,0⟩ λK=>
 aU (wR I J) λL=>
 ct ⟨b,0⟩ (Ks.mk cu K)<|
 aU (wR o K) λM=>
 aC d λN=>
 so N 8 [aB L]<|
 aC d λO=>
 so O 9 [aB M]<|
 bI ⟨b,0⟩ λQ=>
 aC d λS=>
 so S 2 [aB Q]<|
 u ())<|
 u ()) λ(T:Unit)=>
 aC d λU=>
 so U 4 [bc true]<|
 R ():=bG Tryz.func118 (uz 0x207db42a78f9523a575736a3112e56982aa5941aa2450c72250479471251c2940065000947fc30607d946a7909533e57573aa70d9523256d52ea2912652061071e51c59470e50029400650009770c106075636971858cb5b58ba5a58aa59589a57587a56008a561c6a451030810009690c2dc1100100047818508a470c60850401250009540c1004001001)
instance abY(s flight):bF (UA s flight) λR=>
 aC s λa=>
 bI a λb=>
 aU (qH b flight) λc=>
 aC s λd=>
 so d 3 [aB (if c>1 then c else 1)]<|
 R ():=bG Tryz.func196 .o
instance ab0(s aj flight):bF (UC s aj flight) λR=>
 new [zu,zu,zu,zu,bc false] λa=>
 join [] (λb=>
 aq (flight==0) (
 aC s λc=>
 so c 2 [aB aj]<|
 aC s λd=>
 so d 1 [aB aj]<|
 b ())<|
 b ()) λ(e:Unit)=>
 bR<|
 aC s λf=>
 aC s λg=>
 aC s λh=>
 aC s λi=>
 bI f λj=>
 dD g 1 λk=>
 dD h 2 λl=>
 dD i 3 λm=>
 st ⟨a,0⟩ [aB aj,aB j,aB k,aB l,bc (m !=0)]<|
 ld cw ⟨a,0⟩ λn=>
 R n:=bG Tryz.func198 (uz 0x823193aa27595514b545030810f2c70ce286080365009940165001941025403048004001)
instance aaP(d o a a'):bF (P_ d o a a') λR=>
 new [zu,zu,zu,zu,zu,zu,zu,zu,bc false] λb=>
 aC d λc=>
 bI c λe=>
 new [zu,zu,zu,zu,zu,zu,zu,zu,bc false] λf=>
 st ⟨f,0⟩ [aB o,aB e,zu,zu,zu,zu,aB a,aB a',bc false]<|
 join [] (λg=>
 aC d λh=>
 oI h 4 λi=>
 aq i (
 bR<|
 aC d λj=>
 aC d λk=>
 aC d λl=>
 aC d λm=>
 dD j 5 λn=>
 dD k 6 λp=>
 oI l 10 λq=>
 dD m 9 λr=>
 st ⟨f,5⟩ [aB n]<|
 lJ m 9 r<|
 Y3 l 10 q<|
 lJ k 6 p<|
 st ⟨f,2⟩ [aB p]<|
 lJ m 9 r<|
 Y3 l 10 q<|
 st ⟨f,8⟩ [bc q]<|
 lJ m 9 r<|
 st ⟨f,4⟩ [aB r]<|
 bR<|
 aC d λs=>
 aC d λt=>
 dD s 8 λu=>
 dD t 7 λv=>
 aU (wR o v) λw=>
 lJ s 8 u<|
 st ⟨f,3⟩ [aB (if w>u then w else u)]<|
 g ())<|
 g ()) λ(x:Unit)=>
 aC d λy=>
 so y 4 [bc false]<|
 aC d λz=>
 so z 5 [zu]<|
 aC d λA=>
 so A 6 [zu]<|
 aC d λB=>
 so B 7 [zu]<|
 aC d λC=>
 so C 8 [zu]<|
 aC d λD=>
 so D 9 [zu]<|
 aC d λE=>
 so E 10 [bc false]<|
 ld aW ⟨f,0⟩ λF=>
 st ⟨b,0⟩ (Ks.mk aW F)<|
 ld aW ⟨b,0⟩ λG=>
 R G:=bG Tryz.func120 (uz 0x20081c6cca892e56942a965526a2031c21810059411250009690e09205ea256963715a895258984ea252961511a894253cb1c338a18234914100c940225004940025543041001004001001)
instance acV(w' t v):bF (U1 w' t v) λR=>
 aC w' λa=>
 so a 1 [aB t,aB t,aB t]<|
 aC w' λb=>
 so b 4 [aB v,aB v,aB v]<|
 aC w' λc=>
 dD c 7 λd=>
 aC w' λe=>
 so e 7 [aB (if t>d then t else d)]<|
 R ():=bG Tryz.func255 (uz 7)
instance abP(d o a):bF (Us d o a) λR=>
 aC d λc=>
 dD c 7 λe=>
 aC d λf=>
 so f 7 [aB (if e>o then e else o)]<|
 join cb (λg=>
 bR<|
 cg (Mi d a 0) λh=>
 aq h (
 g true)<|
 aC d λi=>
 eA (0≤(2:Int)∧(2:Int)<3)<|
 bI ⟨i.b,i.o+1+(2:Int).toNat*1⟩ λj=>
 aq (decide ((if e>o then e else o)>j)) (
 aC d λk=>
 aC d λl=>
 eA (0≤(2:Int)∧(2:Int)<3)<|
 bI l λm=>
 bI ⟨k.b,k.o+1+(2:Int).toNat*1⟩ λn=>
 g (decide ((u64.wrap ((if e>o then e else o)-n))>m)))<|
 g false) λ(p:Bool)=>
 aq p (
 cj (U1 d (if e>o then e else o) a) λq=>
 R a)<|
 join [] (λr=>
 cg (Mi d a 1) λs=>
 aq s (
 cj (EE d 1 (if e>o then e else o) a) λt=>
 cj (EE d 2 (if e>o then e else o) a) λu=>
 r ())<|
 cg (Mi d a 2) λv=>
 aq v (
 cj (EE d 2 (if e>o then e else o) a) λw=>
 r ())<|
 r ()) λ(x:Unit)=>
 aC d λy=>
 eA (0≤(0:Int)∧(0:Int)<3)<|
 bI ⟨y.b,y.o+1+(0:Int).toNat*1⟩ λz=>
 aU (wR (if e>o then e else o) z) λA=>
 join [] (λB=>
 aC d λC=>
 bI C λD=>
 aq (decide (A>D)) (
 cj (Qy d (if e>o then e else o) a) λE=>
 bR<|
 aC d λF=>
 aC d λG=>
 eA (0≤(0:Int)∧(0:Int)<3)<|
 bI G λH=>
 bI ⟨F.b,F.o+1+(0:Int).toNat*1⟩ λI=>
 aU (wR (if e>o then e else o) I) λJ=>
 ct G (Ks.mk cu H)<|
 aq (decide (J>H)) (
 cj (Qy d (if e>o then e else o) a) λK=>
 B ())<|
 B ())<|
 join cb (λL=>
 bR<|
 aC d λM=>
 aC d λN=>
 eA (0≤(1:Int)∧(1:Int)<3)<|
 eA (0≤(0:Int)∧(0:Int)<3)<|
 bI ⟨M.b,M.o+1+(1:Int).toNat*1⟩ λO=>
 bI ⟨N.b,N.o+1+(0:Int).toNat*1⟩ λQ=>
 aq (O==Q) (
 aC d λS=>
 bI S λT=>
 L (decide (A>(u64.wrap (T.tdiv 4)))))<|
 L false) λ(U:Bool)=>
 aq U (
 cj (EE d 1 (if e>o then e else o) a) λV=>
 cj (EE d 2 (if e>o then e else o) a) λX=>
 B ())<|
 bR<|
 aC d λY=>
 aC d λZ=>
 eA (0≤(2:Int)∧(2:Int)<3)<|
 eA (0≤(1:Int)∧(1:Int)<3)<|
 bI ⟨Y.b,Y.o+1+(2:Int).toNat*1⟩ λa0=>
 bI ⟨Z.b,Z.o+1+(1:Int).toNat*1⟩ λa1=>
 aq (a0==a1) (
 aC d λa2=>
 bI a2 λa3=>
 aq (decide (A>(u64.wrap (a3.tdiv 2)))) (
 cj (EE d 2 (if e>o then e else o) a) λa4=>
 B ())<|
 B ())<|
 B ()) λ(a5:Unit)=>
 aC d λa6=>
 eA (0≤(0:Int)∧(0:Int)<3)<|
 bI ⟨a6.b,a6.o+4+(0:Int).toNat*1⟩ λa7=>
 R a7:=bG Tryz.func187 (uz 0x1c78245268dc4e989d712b61711a60710a5f70fa5e70ea5c00da5c1cca4b6952a92442031c218100594002513ffc30470609149a3713a6275c4ad85c46981c4297dc3e979c3a97003697073292da54aa491080c7086040165000966fc30a6fc110781b5cba56446a85284243202007940065040955fc304004100108010006a0043a0ea5669e6d958b78d2d5edceeb52b72b51a77b56a71b50a76b55a70b4fa75b54a6fb4ea6d013a6d00da6d04ca6c94ba6b9a52adaa5269a65229a251e99e51a9940169941129903963882a820650000c2ac1101001001001)
instance acU(w' v i):bF (Mi w' v i) λR=>
 aC w' λa=>
 oI a 8 λc=>
 aq c (
 aC w' λd=>
 eA (0≤i∧i<3)<|
 bI ⟨d.b,d.o+4+i.toNat*1⟩ λe=>
 R (decide (v≤e)))<|
 aC w' λf=>
 eA (0≤i∧i<3)<|
 bI ⟨f.b,f.o+4+i.toNat*1⟩ λg=>
 R (decide (v≥g)):=bG Tryz.func254 (uz 0xa)
instance acW(w' i t v):bF (EE w' i t v) λR=>
 bR<|
 aC w' λa=>
 aC w' λc=>
 eA (0≤i∧i<3)<|
 st ⟨a.b,a.o+1+i.toNat*1⟩ [aB t]<|
 eA (0≤i∧i<3)<|
 st ⟨c.b,c.o+4+i.toNat*1⟩ [aB v]<|
 R ():=bG Tryz.func256 (uz 0x208cd36a88b32980c26a3c922984b94e1e52881a50c59421250439400a5040003)
instance acX(w' t v):bF (Qy w' t v) λR=>
 bR<|
 aC w' λa=>
 aC w' λc=>
 aC w' λd=>
 aC w' λe=>
 eA (0≤(1:Int)∧(1:Int)<3)<|
 eA (0≤(2:Int)∧(2:Int)<3)<|
 eA (0≤(1:Int)∧(1:Int)<3)<|
 eA (0≤(2:Int)∧(2:Int)<3)<|
 bI ⟨a.b,a.o+1+(1:Int).toNat*1⟩ λf=>
 bI ⟨c.b,c.o+1+(2:Int).toNat*1⟩ λg=>
 bI ⟨d.b,d.o+4+(1:Int).toNat*1⟩ λh=>
 bI ⟨e.b,e.o+4+(2:Int).toNat*1⟩ λi=>
 aC w' λj=>
 so j 1 [aB f,aB g,aB t]<|
 aC w' λk=>
 so k 4 [aB h,aB i,aB v]<|
 R ():=bG Tryz.func257 (uz 0x20baa7eab5e947765b1e72a6c66a5a688d9b5d70c36d5d22c659128555024450f2030989404e500e9413250079400a5001940025143)
instance adD(ND bw):bF (Vr ND bw) λR=>
 R (decide ((u64.wrap ((if bw>ND then bw else ND)-(if bw<ND then bw else ND)))≤(u64.wrap (ND.tdiv 8)))):=bG Tryz.func298 (uz 8)
instance aaL(d o a):bF (L2 d o a) λR=>
 aC d λb=>
 dD b 1 λc=>
 loop [.bool,.int .i64] ((decide (o>c)),0) λe (f:Bool×Int)=>
 aq (decide (f.2<((a.len:Nat):Int))) (
 bR<|
 aq f.1 (
 e (true,(i64.wrap (f.2+1))))<|
 idx a f.2 2 λg=>
 aC d λh=>
 dD g 1 λi=>
 dD h 1 λj=>
 aq (decide (i>j)) (
 e (true,(i64.wrap (f.2+1))))<|
 idx a f.2 2 λk=>
 idx a f.2 2 λl=>
 bI k λm=>
 dD l 1 λn=>
 e ((decide (m≥n)),(i64.wrap (f.2+1))))<|
 aq f.1 (
 R (⟨none,0,0⟩,0,11))<|
 loop Ii (⟨none,0,0⟩,⟨none,0,0⟩,0) λp (q:Il)=>
 aC d λr=>
 eP r λs=>
 aq (decide (q.2.2<((s.len:Nat):Int))) (
 aC d λt=>
 eP t λu=>
 idx u q.2.2 9 λv=>
 ld aF v λw=>
 new [zu,zu,zu,zu,zu,zu,bc false,bc false,bc false] λx=>
 st ⟨x,0⟩ (Ks.mk aF w)<|
 join [.bool,.bool] (λy=>
 bR<|
 bI ⟨x,1⟩ λz=>
 rC ⟨x,7⟩ λA=>
 aq (!A) (
 ld aF ⟨x,0⟩ λB=>
 cg (Up B a) λC=>
 ct ⟨x,1⟩ (Ks.mk cu z)<|
 y ((decide (z≤o)),C))<|
 y ((decide (z≤o)),false)) λ(D:Bool×Bool)=>
 join cl (λE=>
 join cb (λF=>
 aq D.1 (
 rC ⟨x,7⟩ λG=>
 F ((!G)||((!D.1)&&D.2)))<|
 F ((!D.1)&&D.2)) λ(H:Bool)=>
 aq H (
 ld aF ⟨x,0⟩ λI=>
 new [aB I.1,aB I.2.1,aB I.2.2.1,aB I.2.2.2.1,aB I.2.2.2.2.1,aB I.2.2.2.2.2.1,bc I.2.2.2.2.2.2.1,bc I.2.2.2.2.2.2.2.1,bc I.2.2.2.2.2.2.2.2] λJ=>
 mj 9 q.2.1 ⟨some ⟨J,0⟩,1,1⟩ λK=>
 E K)<|
 E q.2.1) λ(L:Sl)=>
 aq D.1 (
 p (q.1,L,(i64.wrap (q.2.2+1))))<|
 join [] (λM=>
 aq D.2 (
 st ⟨x,7⟩ [bc true]<|
 st ⟨x,8⟩ [bc false]<|
 M ())<|
 M ()) λ(N:Unit)=>
 ld aF ⟨x,0⟩ λO=>
 new [aB O.1,aB O.2.1,aB O.2.2.1,aB O.2.2.2.1,aB O.2.2.2.2.1,aB O.2.2.2.2.2.1,bc O.2.2.2.2.2.2.1,bc O.2.2.2.2.2.2.2.1,bc O.2.2.2.2.2.2.2.2] λQ=>
 mj 9 q.1 ⟨some ⟨Q,0⟩,1,1⟩ λS=>
 p (S,L,(i64.wrap (q.2.2+1))))<|
 loop SE (0,0,(i64.wrap (((q.1.len:Nat):Int)-1))) λT (U:SK)=>
 aq (decide (U.2.2≥0)) (
 idx q.1 U.2.2 9 λV=>
 aC (some V) λX=>
 oI X 7 λY=>
 aq Y (
 T (U.1,(i64.wrap (U.2.1+1)),(i64.wrap (U.2.2-1))))<|
 aC (some V) λZ=>
 oI Z 8 λa0=>
 aq ((!a0)&&(decide (U.2.1≥3))) (
 aC (some V) λa1=>
 so a1 8 [bc true]<|
 bR<|
 aC (some V) λa2=>
 aC (some V) λa3=>
 dD a2 1 λa4=>
 bI a3 λa5=>
 T ((u64.wrap ((u64.wrap (U.1+a4))-a5)),U.2.1,(i64.wrap (U.2.2-1))))<|
 T (U.1,U.2.1,(i64.wrap (U.2.2-1))))<|
 aC d λa6=>
 st a6 [aY q.1]<|
 R (q.2.1,U.1,0):=bG Tryz.func116 (uz 0x800081afff2e667ffd5fff2a953ffd0fff16963ffc9953fff1255fffc8952fff0e55bffc7951fff0a54c69530650110c00410010010010800420480414c14804431820010400400080042011c00a5fc110430112070d9943266d82e969960ab98089a58388a47193483a4504e12504294e02533f0c24023c21000420480413443042c318200104004904082a6a6a5e669a23798b67797a62792a66796a61791a6591e56d81f790b5e294a5e093a5e28fa5e08ea4d7123296d748bb5a48aa56486a59489a55485a58488a544d212d4801e948a0e94820a904902580308120104a089086080041001001)
instance ab1(b s):bF (UD b s) λR=>
 new (Ks.mk cw s) λa=>
 new [zu,zu] λc=>
 bq (Qz b) λd=>
 aq (decide (d<0)) (
 st ⟨c,0⟩ [zu,zu]<|
 ld cr ⟨c,0⟩ λ(e:Int×Int)=>
 R (e,false))<|
 aC b λf=>
 eP f λg=>
 mj 9 ⟨none,0,0⟩ g λh=>
 bR<|
 ld cw ⟨a,0⟩ λi=>
 idx h d 9 λj=>
 so j 8 [bc false]<|
 ct ⟨a,0⟩ (Ks.mk cw i)<|
 idx h d 9 λk=>
 so k 2 (Ks.mk cw i)<|
 aC b λl=>
 st l [aY h]<|
 bR<|
 idx h d 9 λm=>
 idx h d 9 λn=>
 bI m λo=>
 dD n 1 λp=>
 st ⟨c,0⟩ [aB o,aB p]<|
 ld cr ⟨c,0⟩ λ(q:Int×Int)=>
 R (q,true):=bG Tryz.func199 (uz 0x80c89b10ba9a54aa491080d7587a52442a461a51c59460651c095e0c100182584aaa426581f2298c79a21a579d1690c49460e50811c09450c1001241001001)
instance aaQ(b):bF (JT b) λR=>
 loop [.int .u64,.int .i64] (0,0) λa (c:Int×Int)=>
 aC b λd=>
 eP d λe=>
 aq (decide (c.2<((e.len:Nat):Int))) (
 join cb (λf=>
 aC b λg=>
 eP g λh=>
 idx h c.2 9 λi=>
 oI i 7 λj=>
 aq (!j) (
 aC b λk=>
 eP k λl=>
 idx l c.2 9 λm=>
 oI m 8 λn=>
 f (!n))<|
 f false) λ(o:Bool)=>
 aq o (
 bR<|
 aC b λp=>
 aC b λq=>
 eP p λr=>
 eP q λs=>
 idx r c.2 9 λt=>
 idx s c.2 9 λu=>
 dD t 1 λv=>
 bI u λw=>
 a ((u64.wrap ((u64.wrap (c.1+v))-w)),(i64.wrap (c.2+1))))<|
 a (c.1,(i64.wrap (c.2+1))))<|
 R c.1:=bG Tryz.func121 (uz 0x1c00208d39a2692a59449a512101df78fa56546a4d10c0cb0843a500a9441650019430258430400a1044081201044003086080041001001)
instance aaS(b):bF (T2 b) λR=>
 aU (JT b) λa=>
 loop [.sl,.int .i64] (⟨none,0,0⟩,0) λc (d:Sl×Int)=>
 aC b λe=>
 eP e λf=>
 aq (decide (d.2<((f.len:Nat):Int))) (
 aC b λg=>
 eP g λh=>
 idx h d.2 9 λi=>
 ld aF i λj=>
 new [zu,zu,zu,zu,zu,zu,bc false,bc false,bc false] λk=>
 st ⟨k,0⟩ (Ks.mk aF j)<|
 join [] (λl=>
 rC ⟨k,8⟩ λm=>
 aq m (
 st ⟨k,8⟩ [bc true]<|
 l ())<|
 rC ⟨k,7⟩ λn=>
 st ⟨k,8⟩ [bc (!n)]<|
 l ()) λ(o:Unit)=>
 ld aF ⟨k,0⟩ λp=>
 new [aB p.1,aB p.2.1,aB p.2.2.1,aB p.2.2.2.1,aB p.2.2.2.2.1,aB p.2.2.2.2.2.1,bc p.2.2.2.2.2.2.1,bc p.2.2.2.2.2.2.2.1,bc p.2.2.2.2.2.2.2.2] λq=>
 mj 9 d.1 ⟨some ⟨q,0⟩,1,1⟩ λr=>
 c (r,(i64.wrap (d.2+1))))<|
 aC b λs=>
 st s [aY d.1]<|
 R a:=bG Tryz.func123 (uz 0x200000004001081201045104086080041001001001)
instance abX(b):bF (Uz b) λR=>
 new [zu,zu] λa=>
 bq (Qz b) λc=>
 aq (decide (c<0)) (
 st ⟨a,0⟩ [zu,zu]<|
 ld cr ⟨a,0⟩ λ(d:Int×Int)=>
 R (d,false))<|
 bR<|
 aC b λe=>
 aC b λf=>
 eP e λg=>
 eP f λh=>
 idx g c 9 λi=>
 idx h c 9 λj=>
 bI i λk=>
 dD j 1 λl=>
 st ⟨a,0⟩ [aB k,aB l]<|
 ld cr ⟨a,0⟩ λ(m:Int×Int)=>
 R (m,true):=bG Tryz.func195 (uz 0x8128a1091aa0610a4f1ce19d70da4e345a4b0ca0890443250089441250009490c1241001001)
instance ab3(b from' to' s):bF (UF b from' to' s) λR=>
 new (Ks.mk cw s) λa=>
 aC b λc=>
 dD c 1 λd=>
 aq ((from' !=d)||(decide (to'≤from'))) (
 R 1)<|
 aC b λe=>
 eP e λf=>
 aq (decide (((f.len:Nat):Int)≥4096)) (
 R 5)<|
 bR<|
 ld cw ⟨a,0⟩ λg=>
 aC b λh=>
 eP h λi=>
 both (
 mj 9 ⟨none,0,0⟩ i λj=>
 ct ⟨a,0⟩ (Ks.mk cw g)<|
 new [aB from',aB to',aB g.1,aB g.2.1,aB g.2.2.1,aB g.2.2.2.1,bc g.2.2.2.2,bc false,bc false] λk=>
 ct h (Ks.mk cl i)<|
 mj 9 j ⟨some ⟨k,0⟩,1,1⟩ λl=>
 aC b λm=>
 st m [aY l]<|
 aC b λn=>
 so n 1 [aB to']<|
 R 0)<|
 new [aB from',aB to',aB g.1,aB g.2.1,aB g.2.2.1,aB g.2.2.2.1,bc g.2.2.2.2,bc false,bc false] λo=>
 ct h (Ks.mk cl i)<|
 mj 9 ⟨none,0,0⟩ i λp=>
 ct ⟨a,0⟩ (Ks.mk cw g)<|
 mj 9 p ⟨some ⟨o,0⟩,1,1⟩ λq=>
 aC b λr=>
 st r [aY q]<|
 aC b λt=>
 so t 1 [aB to']<|
 R 0:=bG Tryz.func201 (uz 0x881e70ea8d44c95b58ba9516668a9a079c3aa3513256d62ea68a9951671036585c9b421c89421e50469400650009590c1241241001)
instance ac5(b):bF (Qz b) λR=>
 loop ci 0 λa (c:Int)=>
 aC b λd=>
 eP d λe=>
 aq (decide (c<((e.len:Nat):Int))) (
 aC b λf=>
 eP f λg=>
 idx g c 9 λh=>
 oI h 8 λi=>
 aq i (
 R c)<|
 a (i64.wrap (c+1)))<|
 R (-1):=bG Tryz.func265 (uz 0x7009081201043046080041001)
instance aeg(m d):bF (ZB m d) λR=>
 new (Ks.mk a_ d) λa=>
 new [aY ⟨none,0,0⟩,aY ⟨none,0,0⟩,aY ⟨none,0,0⟩,zu] λb=>
 dn ⟨a,0⟩ λc=>
 join cb (λe=>
 aq (c==1) (
 e (c==1))<|
 aq (c==2) (
 e (c==2))<|
 aq (c==3) (
 e (c==3))<|
 aq (c==4) (
 e (c==4))<|
 aq (c==7) (
 e (c==7))<|
 e (c==9)) λ(f:Bool)=>
 aq f (
 ld a_ ⟨a,0⟩ λg=>
 bQ (ZM m g) λ(h:BH×Int)=>
 st ⟨b,0⟩ (Ks.mk dO h.1)<|
 ld dO ⟨b,0⟩ λi=>
 R (i,h.2))<|
 aq (c==5) (
 bI ⟨a,4⟩ λj=>
 aq (decide (j>4611686018427387904)) (
 st ⟨b,0⟩ [aY ⟨none,0,0⟩,aY ⟨none,0,0⟩,aY ⟨none,0,0⟩,zu]<|
 ld dO ⟨b,0⟩ λk=>
 R (k,3))<|
 bR<|
 bI ⟨a,4⟩ λl=>
 aC m λn=>
 bI n λo=>
 aq (decide (l<o)) (
 st ⟨b,0⟩ [aY ⟨none,0,0⟩,aY ⟨none,0,0⟩,aY ⟨none,0,0⟩,zu]<|
 ld dO ⟨b,0⟩ λp=>
 R (p,4))<|
 bI ⟨a,4⟩ λq=>
 aC m λr=>
 st r [aB q]<|
 st ⟨b,0⟩ [aY ⟨none,0,0⟩,aY ⟨none,0,0⟩,aY ⟨none,0,0⟩,zu]<|
 ld dO ⟨b,0⟩ λs=>
 R (s,0))<|
 aq (c==6) (
 bQ (ZN m) λ(t:BH)=>
 st ⟨b,0⟩ (Ks.mk dO t)<|
 ld dO ⟨b,0⟩ λu=>
 R (u,0))<|
 aq (c==8) (
 ld aZ ⟨a,6⟩ λv=>
 cg (YQ v) λw=>
 aq (!w) (
 st ⟨b,0⟩ [aY ⟨none,0,0⟩,aY ⟨none,0,0⟩,aY ⟨none,0,0⟩,zu]<|
 ld dO ⟨b,0⟩ λx=>
 R (x,13))<|
 ld aZ ⟨a,6⟩ λy=>
 aC m λz=>
 so z 1 (Ks.mk aZ y)<|
 st ⟨b,0⟩ [aY ⟨none,0,0⟩,aY ⟨none,0,0⟩,aY ⟨none,0,0⟩,zu]<|
 ld dO ⟨b,0⟩ λA=>
 R (A,0))<|
 st ⟨b,0⟩ [aY ⟨none,0,0⟩,aY ⟨none,0,0⟩,aY ⟨none,0,0⟩,zu]<|
 ld dO ⟨b,0⟩ λB=>
 R (B,12):=bG Tryz.func25 (uz 0x7ac03205921a91440c100294302568304124104004705c089044080041001)
instance aeS(m i):bF (Z0 m i) λR=>
 new [aY ⟨none,0,0⟩,aY ⟨none,0,0⟩,aY ⟨none,0,0⟩,zu] λa=>
 new [aY ⟨none,0,0⟩,aY ⟨none,0,0⟩,aY ⟨none,0,0⟩,zu] λc=>
 aC m λd=>
 eA (0≤i∧i<8)<|
 st ⟨d.b,d.o+132+i.toNat*1⟩ [.ptr none]<|
 aC m λe=>
 bQ (TZ (some ⟨e.b,e.o+1⟩) i) λ(f:Sl)=>
 st ⟨c,1⟩ [aY f]<|
 loop ci 0 λg (h:Int)=>
 eP ⟨c,1⟩ λj=>
 aq (decide (h<((j.len:Nat):Int))) (
 aC m λk=>
 bq (VG (some ⟨k.b,k.o+68⟩) i 5) λl=>
 eP ⟨c,2⟩ λn=>
 new [aE 5] λp=>
 mj 1 n ⟨some ⟨p,0⟩,1,1⟩ λq=>
 st ⟨c,2⟩ [aY q]<|
 g (i64.wrap (h+1)))<|
 ld dO ⟨c,0⟩ λr=>
 st ⟨a,0⟩ (Ks.mk dO r)<|
 ld dO ⟨a,0⟩ λs=>
 R s:=bG Tryz.func72 (uz 0x7007081201046046080041001001001001)
instance aex(d):bF (ZN d) λR=>
 new [aY ⟨none,0,0⟩,aY ⟨none,0,0⟩,aY ⟨none,0,0⟩,zu] λa=>
 loop [.sl,.int .i64] (⟨none,0,0⟩,0) λc (e:Sl×Int)=>
 aq (decide (e.2<8)) (
 join cu (λf=>
 aC d λg=>
 eA (0≤e.2∧e.2<8)<|
 te ⟨g.b,g.o+132+e.2.toNat*1⟩ λh=>
 aq (!h.isNone) (
 aC d λi=>
 eA (0≤e.2∧e.2<8)<|
 te ⟨i.b,i.o+132+e.2.toNat*1⟩ λj=>
 aC j λk=>
 ga k 20 λl=>
 aC l λm=>
 dD m 24 λn=>
 f n)<|
 f 18446744073709551615) λ(p:Int)=>
 new [aB p] λq=>
 mj 1 e.1 ⟨some ⟨q,0⟩,1,1⟩ λr=>
 c (r,(i64.wrap (e.2+1))))<|
 bR<|
 aC d λs=>
 aC d λt=>
 bI t λu=>
 both (
 bQ (YT (some ⟨s.b,s.o+1⟩) u e.1) λ(v:km×Bool)=>
 new [zi,zu,zi,zu,bc false] λw=>
 ct t (Ks.mk cu u)<|
 st ⟨w,0⟩ (Ks.mk aX v.1)<|
 aq v.2 (
 bR<|
 aC d λx=>
 dn ⟨w,0⟩ λy=>
 bq (VG (some ⟨x.b,x.o+68⟩) y 1) λz=>
 ld aX ⟨w,0⟩ λA=>
 new [aE A.1,aB A.2.1,aE A.2.2.1,aB A.2.2.2.1,bc A.2.2.2.2] λB=>
 st ⟨a,0⟩ [aY ⟨some ⟨B,0⟩,1,1⟩,aY ⟨none,0,0⟩,aY ⟨none,0,0⟩,zu]<|
 ld dO ⟨a,0⟩ λC=>
 R C)<|
 aC d λD=>
 bQ (YU (some ⟨D.b,D.o+1⟩)) λ(E:Int×Bool)=>
 aq (!E.2) (
 st ⟨a,0⟩ [aY ⟨none,0,0⟩,aY ⟨none,0,0⟩,aY ⟨none,0,0⟩,zu]<|
 ld dO ⟨a,0⟩ λF=>
 R F)<|
 st ⟨a,0⟩ [aY ⟨none,0,0⟩,aY ⟨none,0,0⟩,aY ⟨none,0,0⟩,aB (if E.1>1 then E.1 else 1)]<|
 ld dO ⟨a,0⟩ λG=>
 R G)<|
 new [zi,zu,zi,zu,bc false] λH=>
 ct t (Ks.mk cu u)<|
 bQ (YT (some ⟨s.b,s.o+1⟩) u e.1) λ(I:km×Bool)=>
 st ⟨H,0⟩ (Ks.mk aX I.1)<|
 aq I.2 (
 bR<|
 aC d λJ=>
 dn ⟨H,0⟩ λK=>
 bq (VG (some ⟨J.b,J.o+68⟩) K 1) λL=>
 ld aX ⟨H,0⟩ λM=>
 new [aE M.1,aB M.2.1,aE M.2.2.1,aB M.2.2.2.1,bc M.2.2.2.2] λN=>
 st ⟨a,0⟩ [aY ⟨some ⟨N,0⟩,1,1⟩,aY ⟨none,0,0⟩,aY ⟨none,0,0⟩,zu]<|
 ld dO ⟨a,0⟩ λO=>
 R O)<|
 aC d λQ=>
 bQ (YU (some ⟨Q.b,Q.o+1⟩)) λ(S:Int×Bool)=>
 aq (!S.2) (
 st ⟨a,0⟩ [aY ⟨none,0,0⟩,aY ⟨none,0,0⟩,aY ⟨none,0,0⟩,zu]<|
 ld dO ⟨a,0⟩ λT=>
 R T)<|
 st ⟨a,0⟩ [aY ⟨none,0,0⟩,aY ⟨none,0,0⟩,aY ⟨none,0,0⟩,aB (if S.1>1 then S.1 else 1)]<|
 ld dO ⟨a,0⟩ λU=>
 R U:=bG Tryz.func48 (uz 0x2801e055316a0840460e50009710c104004181b3a668636a40b9502a52585d322e32281b3a668636a32240b9502a52585d322f1850840431e5003940025943040008005044001081201044103086080041001001)
instance aeX(d o a):bF (Z3 d o a) λR=>
 loop [] () λc (e:Unit)=>
 aC d λf=>
 bI f λg=>
 bQ (Qa o g) λ(h:km×Int)=>
 new [zi,zu,zi,zu,bc false] λi=>
 st ⟨i,0⟩ (Ks.mk aX h.1)<|
 aq (h.2 !=0) (
 R ())<|
 bR<|
 ld aX ⟨i,0⟩ λj=>
 aC d λk=>
 aC d λl=>
 bI l λm=>
 bQ (T3 (some ⟨k.b,k.o+1⟩) j m) λ(n:Int×Int)=>
 bR<|
 aC d λp=>
 aC o λq=>
 dn q λr=>
 bq (VG (some ⟨p.b,p.o+68⟩) r 0) λs=>
 aq (n.1 !=0) (
 bR<|
 aC d λt=>
 aC o λu=>
 dn u λv=>
 bq (VG (some ⟨t.b,t.o+68⟩) v n.1) λw=>
 bR<|
 ld aX ⟨i,0⟩ λx=>
 aC a λy=>
 aC a λz=>
 jn y 1 λA=>
 jn z 2 λB=>
 both (
 new [aE x.1,aB x.2.1,aE x.2.2.1,aB x.2.2.2.1,bc x.2.2.2.2] λC=>
 td z 2 B<|
 td y 1 A<|
 both (
 mj 5 A ⟨some ⟨C,0⟩,1,1⟩ λD=>
 td z 2 B<|
 new [aE n.1] λE=>
 td z 2 B<|
 td y 1 A<|
 ct ⟨i,0⟩ (Ks.mk aX x)<|
 mj 1 B ⟨some ⟨E,0⟩,1,1⟩ λF=>
 aC a λG=>
 so G 1 [aY D]<|
 aC a λH=>
 so H 2 [aY F]<|
 dn ⟨i,2⟩ λI=>
 bq (VF o I) λJ=>
 R ())<|
 new [aE n.1] λK=>
 td z 2 B<|
 td y 1 A<|
 ct ⟨i,0⟩ (Ks.mk aX x)<|
 mj 5 A ⟨some ⟨C,0⟩,1,1⟩ λL=>
 td z 2 B<|
 mj 1 B ⟨some ⟨K,0⟩,1,1⟩ λM=>
 aC a λN=>
 so N 1 [aY L]<|
 aC a λO=>
 so O 2 [aY M]<|
 dn ⟨i,2⟩ λQ=>
 bq (VF o Q) λS=>
 R ())<|
 new [aE n.1] λT=>
 td z 2 B<|
 td y 1 A<|
 ct ⟨i,0⟩ (Ks.mk aX x)<|
 new [aE x.1,aB x.2.1,aE x.2.2.1,aB x.2.2.2.1,bc x.2.2.2.2] λU=>
 td z 2 B<|
 td y 1 A<|
 mj 5 A ⟨some ⟨U,0⟩,1,1⟩ λV=>
 td z 2 B<|
 mj 1 B ⟨some ⟨T,0⟩,1,1⟩ λX=>
 aC a λY=>
 so Y 1 [aY V]<|
 aC a λZ=>
 so Z 2 [aY X]<|
 dn ⟨i,2⟩ λa0=>
 bq (VF o a0) λa1=>
 R ())<|
 c ():=bG Tryz.func77 (uz 0x7824815aa3525493962652a9145095f74fa98588a971e678e9a092056a8d49524e58994aa4514257dd3ea61622a78e9a092056a8d49524e58994aa4514257dd3ea78e998588ad71e73052c428320d9422651869420a5081942025cc30606174c8b861421012079410e500096a0c10400605d31ea1850840410e50009600c181b36668c9902e540a9496144c8b871821410049460e50009550c1201001080182)
instance aew(d o):bF (ZM d o) λR=>
 new (Ks.mk a_ o) λa=>
 new [aY ⟨none,0,0⟩,aY ⟨none,0,0⟩,aY ⟨none,0,0⟩,zu] λc=>
 join [] (λe=>
 dn ⟨a,1⟩ λf=>
 aq (decide (f<0)) (
 st ⟨c,0⟩ [aY ⟨none,0,0⟩,aY ⟨none,0,0⟩,aY ⟨none,0,0⟩,zu]<|
 ld dO ⟨c,0⟩ λg=>
 R (g,8))<|
 dn ⟨a,1⟩ λh=>
 aq (decide (h≥8)) (
 st ⟨c,0⟩ [aY ⟨none,0,0⟩,aY ⟨none,0,0⟩,aY ⟨none,0,0⟩,zu]<|
 ld dO ⟨c,0⟩ λi=>
 R (i,8))<|
 e ()) λ(j:Unit)=>
 bR<|
 dn ⟨a,1⟩ λk=>
 aC d λl=>
 eA (0≤k∧k<8)<|
 te ⟨l.b,l.o+132+k.toNat*1⟩ λm=>
 dn ⟨a,0⟩ λn=>
 aq (n==1) (
 aq (!m.isNone) (
 st ⟨c,0⟩ [aY ⟨none,0,0⟩,aY ⟨none,0,0⟩,aY ⟨none,0,0⟩,zu]<|
 ld dO ⟨c,0⟩ λp=>
 R (p,9))<|
 bR<|
 dn ⟨a,1⟩ λq=>
 dn ⟨a,1⟩ λr=>
 aC d λs=>
 aC d λt=>
 lo aZ s 1 λ(u:eF)=>
 lY (ZZ r u) λv=>
 ct ⟨a,1⟩ (Ks.mk ci q)<|
 eA (0≤q∧q<8)<|
 st ⟨t.b,t.o+132+q.toNat*1⟩ [.ptr v]<|
 st ⟨c,0⟩ [aY ⟨none,0,0⟩,aY ⟨none,0,0⟩,aY ⟨none,0,0⟩,zu]<|
 ld dO ⟨c,0⟩ λw=>
 R (w,0))<|
 aq m.isNone (
 st ⟨c,0⟩ [aY ⟨none,0,0⟩,aY ⟨none,0,0⟩,aY ⟨none,0,0⟩,zu]<|
 ld dO ⟨c,0⟩ λx=>
 R (x,10))<|
 dn ⟨a,0⟩ λy=>
 aq (y==9) (
 dn ⟨a,1⟩ λz=>
 bQ (Z0 d z) λ(A:BH)=>
 st ⟨c,0⟩ (Ks.mk dO A)<|
 ld dO ⟨c,0⟩ λB=>
 R (B,0))<|
 join ci (λC=>
 dn ⟨a,0⟩ λD=>
 aq (D==2) (
 bR<|
 aC m λE=>
 dn ⟨a,2⟩ λF=>
 bq (YS (some ⟨E.b,E.o+3⟩) F) λG=>
 C G)<|
 aq (D==3) (
 bR<|
 aC d λH=>
 bI ⟨a,3⟩ λI=>
 eP ⟨a,5⟩ λJ=>
 bI H λK=>
 bq (Z1 m K I J) λL=>
 C L)<|
 aq (D==4) (
 aC d λM=>
 bI M λN=>
 cj (Z2 m N) λO=>
 C 0)<|
 dn ⟨a,2⟩ λQ=>
 bq (VF m Q) λS=>
 C S) λ(T:Int)=>
 new [aY ⟨none,0,0⟩,aY ⟨none,0,0⟩,aY ⟨none,0,0⟩,zu] λU=>
 join [] (λV=>
 aq (T==0) (
 cj (Z3 d m (some ⟨U,0⟩)) λX=>
 V ())<|
 V ()) λ(Y:Unit)=>
 ld dO ⟨U,0⟩ λZ=>
 st ⟨c,0⟩ (Ks.mk dO Z)<|
 ld dO ⟨c,0⟩ λa0=>
 R (a0,T):=bG Tryz.func47 (uz 0x1c800400122068a9995d5449c840c81820c794316500194602523f0c10018161a655316a0840430e5180940fc304004200104704400124124100781e6cea9d4cda5a54aa8920c1d12e51840801650c394306500095e0c12410400418171e61954c5a444439420c1940025443049004001)
instance aev(d):bF (YQ d) λR=>
 new (Ks.mk aZ d) λa=>
 dn ⟨a,0⟩ λb=>
 aq (decide (b≥100)) (
 dn ⟨a,0⟩ λc=>
 aq (decide (c≤65536)) (
 dn ⟨a,1⟩ λe=>
 aq (decide (e≥100)) (
 dn ⟨a,1⟩ λf=>
 aq (decide (f≤65536)) (
 dn ⟨a,2⟩ λg=>
 aq (decide (g≥1)) (
 dn ⟨a,2⟩ λh=>
 aq (decide (h≤512)) (
 dn ⟨a,3⟩ λi=>
 aq (decide (i≥1)) (
 dn ⟨a,3⟩ λj=>
 aq (decide (j≤512)) (
 bI ⟨a,4⟩ λk=>
 aq (decide (k≤4611686018427387904)) (
 dn ⟨a,7⟩ λl=>
 aq (decide (l≥1)) (
 dn ⟨a,7⟩ λm=>
 aq (decide (m≤1073741824)) (
 dn ⟨a,8⟩ λn=>
 aq (decide (n≥100)) (
 dn ⟨a,8⟩ λo=>
 R (decide (o≤9000)))<|
 R false)<|
 R false)<|
 R false)<|
 R false)<|
 R false)<|
 R false)<|
 R false)<|
 R false)<|
 R false)<|
 R false)<|
 R false)<|
 R false:=bG Tryz.func46 (uz 8)
instance aef(c):bF (ZA c) λR=>
 new (Ks.mk aZ c) λa=>
 ld aZ ⟨a,0⟩ λb=>
 cg (YQ b) λd=>
 aq (!d) (
 R (none,13))<|
 ld aZ ⟨a,0⟩ λe=>
 new [zu,aE e.1,aE e.2.1,aE e.2.2.1,aE e.2.2.2.1,aB e.2.2.2.2.1,aB e.2.2.2.2.2.1,bc e.2.2.2.2.2.2.1,aE e.2.2.2.2.2.2.2.1,aE e.2.2.2.2.2.2.2.2,zi,zi,zi,zu,zu,aY ⟨none,0,0⟩,zi,zi,zi,zu,zu,aY ⟨none,0,0⟩,zi,zi,zi,zu,zu,aY ⟨none,0,0⟩,zi,zi,zi,zu,zu,aY ⟨none,0,0⟩,zi,zi,zi,zu,zu,aY ⟨none,0,0⟩,zi,zi,zi,zu,zu,aY ⟨none,0,0⟩,zi,zi,zi,zu,zu,aY ⟨none,0,0⟩,zi,zi,zi,zu,zu,aY ⟨none,0,0⟩,bc false,bc false,bc false,bc false,bc false,bc false,bc false,bc false,aY ⟨none,0,0⟩,aY ⟨none,0,0⟩,zi,zi,zi,zi,zi,zi,zi,zi,zi,zi,zi,zi,zi,zi,zi,zi,zi,zi,zi,zi,zi,zi,zi,zi,zi,zi,zi,zi,zi,zi,zi,zi,zi,zi,zi,zi,zi,zi,zi,zi,zi,zi,zi,zi,zi,zi,zi,zi,zi,zi,zi,zi,zi,zi,zi,zi,zi,zi,zi,zi,zi,zi,zi,zi,.ptr none,.ptr none,.ptr none,.ptr none,.ptr none,.ptr none,.ptr none,.ptr none] λf=>
 R ((some ⟨f,0⟩),0):=bG Tryz.func24 (uz 0xa)
instance aeR(id c):bF (ZZ id c) λR=>
 new (Ks.mk aZ c) λa=>
 bR<|
 dn ⟨a,8⟩ λb=>
 dn ⟨a,7⟩ λd=>
 dn ⟨a,8⟩ λe=>
 lY (TY (u64.wrap (if e>0 then e else 0))) λf=>
 ct ⟨a,7⟩ (Ks.mk ci d)<|
 ct ⟨a,8⟩ (Ks.mk ci b)<|
 new [aE id,aE b,aE d,aE 1073741824,zu,zu,zu,aY ⟨none,0,0⟩,zu,zu,zu,zu,zu,bc false,zu,zu,zu,zu,zu,bc false,.ptr f,zu,zu] λg=>
 R (some ⟨g,0⟩):=bG Tryz.func71 (uz 0x2074d99c3263ca24714bd4e2a62481c40831a51610c39430650009440c1001)
instance aeb:bF XG λR=>
 new [zi,zi,zi,zi,zu,zu,bc false,zi,zi] λa=>
 st ⟨a,0⟩ [aE 3000,aE 15000,aE 100,aE 50,aB 10000000000,zu,bc false,aE 100000,aE 1000]<|
 ld aZ ⟨a,0⟩ λb=>
 R b:=bG Tryz.func18 (uz 8)
instance aaK(q i):bF (TZ q i) λR=>
 join [] (λa=>
 aq ((decide (i<0))||(decide (i≥8))) (
 R ⟨none,0,0⟩)<|
 aC q λc=>
 eA (0≤i∧i<8)<|
 rC ⟨c.b,c.o+57+i.toNat*1⟩ λd=>
 aq (!d) (
 R ⟨none,0,0⟩)<|
 a ()) λ(e:Unit)=>
 aC q λf=>
 eA (0≤i∧i<8)<|
 eP ⟨f.b,f.o+9+i.toNat*6+5⟩ λg=>
 aC q λh=>
 cg (Qk (some ⟨h.b,h.o+65⟩) i) λj=>
 bR<|
 aC q λk=>
 aC q λl=>
 eA (0≤i∧i<8)<|
 st ⟨k.b,k.o+57+i.toNat*1⟩ [bc false]<|
 eA (0≤i∧i<8)<|
 st ⟨l.b,l.o+9+i.toNat*6⟩ [zi,zi,zi,zu,zu,aY ⟨none,0,0⟩]<|
 R g:=bG Tryz.func115 (uz 0x783bd4cabad0ba78226df21e9e4a9761a5cc99711651210439400a5040003040040049004001)
instance aeY(d o a):bF (YT d o a) λR=>
 new [zi,zu,zi,zu,bc false] λc=>
 join [] (λe=>
 bq (L3 d) λf=>
 loop ci f λg (h:Int)=>
 join [] (λi=>
 aq (decide (h≥0)) (
 aC d λj=>
 eA (0≤h∧h<8)<|
 ld oK ⟨j.b,j.o+9+h.toNat*6⟩ λk=>
 aU (Gn k) λl=>
 aq (decide (l≤o)) (
 i ())<|
 e ())<|
 e ()) λ(m:Unit)=>
 cj (Gp d h 2) λn=>
 bq (L3 d) λp=>
 g p) λ(q:Unit)=>
 loop [] () λr (s:Unit)=>
 aC d λt=>
 bQ (T4 (some ⟨t.b,t.o+65⟩)) λ(u:Int×Bool×Bool)=>
 aq (!u.2.2) (
 st ⟨c,0⟩ [zi,zu,zi,zu,bc false]<|
 ld aX ⟨c,0⟩ λv=>
 R (v,false))<|
 aC d λw=>
 eA (0≤u.1∧u.1<8)<|
 aC (some ⟨w.b,w.o+9+u.1.toNat*6⟩) λx=>
 gY x 1 λy=>
 aq (decide (y≤0)) (
 bR<|
 aC (some ⟨w.b,w.o+9+u.1.toNat*6⟩) λz=>
 aC d λA=>
 gY z 1 λB=>
 dn A λC=>
 aC (some ⟨w.b,w.o+9+u.1.toNat*6⟩) λD=>
 so D 1 [aE (i64.wrap (B+C))]<|
 cj (Gp d u.1 2) λE=>
 r ())<|
 join cb (λF=>
 aC (some ⟨w.b,w.o+9+u.1.toNat*6⟩) λG=>
 jn G 5 λH=>
 aq ((((H.len:Nat):Int)==0)&&u.2.1) (
 aC d λI=>
 jn I 66 λJ=>
 F (decide (((J.len:Nat):Int)>0)))<|
 F false) λ(K:Bool)=>
 aq K (
 cj (Gp d u.1 2) λL=>
 r ())<|
 aC (some ⟨w.b,w.o+9+u.1.toNat*6⟩) λM=>
 jn M 5 λN=>
 aq (((N.len:Nat):Int)==0) (
 cj (Gp d u.1 0) λO=>
 aC (some ⟨w.b,w.o+9+u.1.toNat*6⟩) λQ=>
 so Q 4 [aB o]<|
 r ())<|
 aC (some ⟨w.b,w.o+9+u.1.toNat*6⟩) λS=>
 ld oK S λT=>
 aU (Gn T) λU=>
 aq (decide (U>o)) (
 cj (Gp d u.1 3) λV=>
 r ())<|
 aC (some ⟨w.b,w.o+9+u.1.toNat*6⟩) λX=>
 jn X 5 λY=>
 idx Y 0 5 λZ=>
 ld aX Z λa0=>
 new [zi,zu,zi,zu,bc false] λa1=>
 st ⟨a1,0⟩ (Ks.mk aX a0)<|
 aC (some ⟨w.b,w.o+9+u.1.toNat*6⟩) λa2=>
 jn a2 5 λa3=>
 DV a3 (some 1) none none 5 λa4=>
 mj 5 ⟨none,0,0⟩ a4 λa5=>
 aC (some ⟨w.b,w.o+9+u.1.toNat*6⟩) λa6=>
 so a6 5 [aY a5]<|
 bR<|
 aC (some ⟨w.b,w.o+9+u.1.toNat*6⟩) λa7=>
 dn ⟨a1,2⟩ λa8=>
 gY a7 1 λa9=>
 aC (some ⟨w.b,w.o+9+u.1.toNat*6⟩) λb0=>
 so b0 1 [aE (i64.wrap (a9-a8))]<|
 bR<|
 dn ⟨a1,2⟩ λb1=>
 aC d λb2=>
 dD b2 5 λb3=>
 aU (T6 a u.1) λb4=>
 lJ b2 5 b3<|
 ct ⟨a1,2⟩ (Ks.mk ci b1)<|
 aU (T5 b4 b3) λb5=>
 ct ⟨a1,2⟩ (Ks.mk ci b1)<|
 aU (L4 b1 b5) λb6=>
 aU (qH o b6) λb7=>
 aC (some ⟨w.b,w.o+9+u.1.toNat*6⟩) λb8=>
 so b8 3 [aB b7]<|
 ld aX ⟨a1,0⟩ λb9=>
 st ⟨c,0⟩ (Ks.mk aX b9)<|
 ld aX ⟨c,0⟩ λc0=>
 R (c0,true):=bG Tryz.func78 (uz 0x78217d1a9044f95e48ea9d50da9c5cca96546a8b28920300794916508494d0a504194c0252ff0c181a60aa89448957547a440c608d16530194c02507f0c10010010010011c1001001002d3f04402075b36a3112e56952a92481070c608016530194c0258ff0c1040042001241001080182000081200101201182001004001)
instance aaU(d o a):bF (T3 d o a) λR=>
 new (Ks.mk aX o) λc=>
 join [] (λe=>
 dn ⟨c,0⟩ λf=>
 aq (decide (f<0)) (
 R (0,8))<|
 dn ⟨c,0⟩ λg=>
 aq (decide (g≥8)) (
 R (0,8))<|
 e ()) λ(h:Unit)=>
 join [] (λi=>
 dn ⟨c,2⟩ λj=>
 aq (decide (j<1)) (
 R (0,1))<|
 dn ⟨c,2⟩ λk=>
 aq (decide (k>65536)) (
 R (0,1))<|
 i ()) λ(l:Unit)=>
 cj (UG d a) λm=>
 bR<|
 dn ⟨c,0⟩ λn=>
 aC d λp=>
 eA (0≤n∧n<8)<|
 aC d λq=>
 dD q 4 λr=>
 aU (qH a r) λs=>
 join [] (λt=>
 bR<|
 aC d λu=>
 gY u 2 λv=>
 bq (UH d) λw=>
 GS u 2 v<|
 aq (decide (w≥v)) (
 R (2,0))<|
 bR<|
 aC (some ⟨p.b,p.o+9+n.toNat*6⟩) λx=>
 aC d λy=>
 jn x 5 λz=>
 gY y 3 λA=>
 aq (decide (((z.len:Nat):Int)≥A)) (
 R (3,0))<|
 bI ⟨c,3⟩ λB=>
 aq (decide (B>s)) (
 aC d λC=>
 oI C 6 λD=>
 aq D (
 R (4,0))<|
 t ())<|
 t ()) λ(E:Unit)=>
 bI ⟨c,3⟩ λF=>
 st ⟨c,3⟩ [aB (if s<F then s else F)]<|
 join [] (λG=>
 bR<|
 dn ⟨c,0⟩ λH=>
 aC d λI=>
 eA (0≤H∧H<8)<|
 rC ⟨I.b,I.o+57+H.toNat*1⟩ λJ=>
 aq (!J) (
 bR<|
 dn ⟨c,0⟩ λK=>
 aC d λL=>
 eA (0≤K∧K<8)<|
 st ⟨L.b,L.o+57+K.toNat*1⟩ [bc true]<|
 bR<|
 dn ⟨c,0⟩ λM=>
 aC d λN=>
 gY N 1 λO=>
 aC (some ⟨p.b,p.o+9+n.toNat*6⟩) λQ=>
 st Q [aE M,aE O,zi,zu,zu,aY ⟨none,0,0⟩]<|
 G ())<|
 join cb (λS=>
 aC (some ⟨p.b,p.o+9+n.toNat*6⟩) λT=>
 gY T 2 λU=>
 aq (U==0) (
 aC (some ⟨p.b,p.o+9+n.toNat*6⟩) λV=>
 dD V 4 λX=>
 aU (qH X 40000000) λY=>
 S (decide (Y≤a)))<|
 S false) λ(Z:Bool)=>
 aq Z (
 bR<|
 aC (some ⟨p.b,p.o+9+n.toNat*6⟩) λa0=>
 aC d λa1=>
 gY a0 1 λa2=>
 dn a1 λa3=>
 aC (some ⟨p.b,p.o+9+n.toNat*6⟩) λa4=>
 so a4 1 [aE (if a3>a2 then a3 else a2)]<|
 G ())<|
 G ()) λ(a5:Unit)=>
 bR<|
 ld aX ⟨c,0⟩ λa6=>
 aC (some ⟨p.b,p.o+9+n.toNat*6⟩) λa7=>
 jn a7 5 λa8=>
 both (
 mj 5 ⟨none,0,0⟩ a8 λa9=>
 ct ⟨c,0⟩ (Ks.mk aX a6)<|
 new [aE a6.1,aB a6.2.1,aE a6.2.2.1,aB a6.2.2.2.1,bc a6.2.2.2.2] λb0=>
 td a7 5 a8<|
 mj 5 a9 ⟨some ⟨b0,0⟩,1,1⟩ λb1=>
 aC (some ⟨p.b,p.o+9+n.toNat*6⟩) λb2=>
 so b2 5 [aY b1]<|
 aC (some ⟨p.b,p.o+9+n.toNat*6⟩) λb3=>
 gY b3 2 λb4=>
 aq (b4==0) (
 aC (some ⟨p.b,p.o+9+n.toNat*6⟩) λb5=>
 so b5 2 [aE 1]<|
 aC (some ⟨p.b,p.o+9+n.toNat*6⟩) λb6=>
 so b6 4 [zu]<|
 bR<|
 aC d λb7=>
 dn ⟨c,0⟩ λb8=>
 bq (L9 (some ⟨b7.b,b7.o+65⟩) b8 true) λb9=>
 R (0,0))<|
 R (0,0))<|
 new [aE a6.1,aB a6.2.1,aE a6.2.2.1,aB a6.2.2.2.1,bc a6.2.2.2.2] λc0=>
 td a7 5 a8<|
 mj 5 ⟨none,0,0⟩ a8 λc1=>
 ct ⟨c,0⟩ (Ks.mk aX a6)<|
 mj 5 c1 ⟨some ⟨c0,0⟩,1,1⟩ λc2=>
 aC (some ⟨p.b,p.o+9+n.toNat*6⟩) λc3=>
 so c3 5 [aY c2]<|
 aC (some ⟨p.b,p.o+9+n.toNat*6⟩) λc4=>
 gY c4 2 λc5=>
 aq (c5==0) (
 aC (some ⟨p.b,p.o+9+n.toNat*6⟩) λc6=>
 so c6 2 [aE 1]<|
 aC (some ⟨p.b,p.o+9+n.toNat*6⟩) λc7=>
 so c7 4 [zu]<|
 bR<|
 aC d λc8=>
 dn ⟨c,0⟩ λc9=>
 bq (L9 (some ⟨c8.b,c8.o+65⟩) c9 true) λd0=>
 R (0,0))<|
 R (0,0):=bG Tryz.func125 (uz 0x702055316a0840440e500095afff0c00410010606d92ea29126561622a5459971e681b64ba8a449958588a971e65459c40c2106948065200944fff0c102075b36a3112e56952a92481070c6080165201948025dbf0c1002dbf04481a64aa912656132291c61440800e51019480257bf0e05869954c5a4444394210194002563f0c10601c65531691110e5084065000950fc304010005381b2e66952a92442031c2181005948025cc3047060608997487a51066185103002940025a830420040018161a65531691110e508406500095c0c1001240109004001)
instance ab5(q):bF (UH q) λR=>
 loop [.int .i64,.int .i64] (0,0) λa (c:Int×Int)=>
 aq (decide (c.2<8)) (
 aC q λd=>
 eA (0≤c.2∧c.2<8)<|
 eP ⟨d.b,d.o+9+c.2.toNat*6+5⟩ λe=>
 a ((i64.wrap (c.1+((e.len:Nat):Int))),(i64.wrap (c.2+1))))<|
 R c.1:=bG Tryz.func203 (uz 0x7000081201044043086080041001001)
instance ae0(q):bF (YU q) λR=>
 bq (L3 q) λa=>
 aq (decide (a<0)) (
 R (0,false))<|
 aC q λc=>
 eA (0≤a∧a<8)<|
 ld oK ⟨c.b,c.o+9+a.toNat*6⟩ λd=>
 aU (Gn d) λe=>
 R (e,true):=bG Tryz.func80 (uz 0x17)
instance ab4(q aj):bF (UG q aj) λR=>
 loop ci 0 λa (c:Int)=>
 aq (decide (c<8)) (
 join cb (λd=>
 aC q λe=>
 eA (0≤c∧c<8)<|
 rC ⟨e.b,e.o+57+c.toNat*1⟩ λf=>
 aq f (
 aC q λg=>
 eA (0≤c∧c<8)<|
 dn ⟨g.b,g.o+9+c.toNat*6+2⟩ λh=>
 aq (h==0) (
 aC q λi=>
 eA (0≤c∧c<8)<|
 bI ⟨i.b,i.o+9+c.toNat*6+4⟩ λj=>
 aU (qH j 3000000000) λk=>
 d (decide (k≤aj)))<|
 d false)<|
 d false) λ(l:Bool)=>
 aq l (
 bR<|
 aC q λm=>
 aC q λn=>
 eA (0≤c∧c<8)<|
 st ⟨m.b,m.o+57+c.toNat*1⟩ [bc false]<|
 eA (0≤c∧c<8)<|
 st ⟨n.b,n.o+9+c.toNat*6⟩ [zi,zi,zi,zu,zu,aY ⟨none,0,0⟩]<|
 a (i64.wrap (c+1)))<|
 a (i64.wrap (c+1)))<|
 R ():=bG Tryz.func202 (uz 0x20fb832af772e9ec89bad47a7c2a5e46976265d059448430029440650009410c1002901102048041101182001)
instance aaV(q):bF (L3 q) λR=>
 loop [.int .i64,.int .i64] ((-1),0) λa (c:Int×Int)=>
 aq (decide (c.2<8)) (
 join cb (λd=>
 bR<|
 aC q λe=>
 eA (0≤c.2∧c.2<8)<|
 rC ⟨e.b,e.o+57+c.2.toNat*1⟩ λf=>
 aq f (
 aC q λg=>
 eA (0≤c.2∧c.2<8)<|
 dn ⟨g.b,g.o+9+c.2.toNat*6+2⟩ λh=>
 aq (h==3) (
 aq (decide (c.1<0)) (
 d true)<|
 aC q λi=>
 aC q λj=>
 eA (0≤c.2∧c.2<8)<|
 eA (0≤c.1∧c.1<8)<|
 ld oK ⟨i.b,i.o+9+c.2.toNat*6⟩ λk=>
 ld oK ⟨j.b,j.o+9+c.1.toNat*6⟩ λl=>
 aU (Gn k) λm=>
 ct ⟨j.b,j.o+9+c.1.toNat*6⟩ (Ks.mk oK l)<|
 aU (Gn l) λn=>
 d (decide (m<n)))<|
 d false)<|
 d false) λ(p:Bool)=>
 aq p (
 a (c.2,(i64.wrap (c.2+1))))<|
 a (c.1,(i64.wrap (c.2+1))))<|
 R c.1:=bG Tryz.func126 (uz 0x1c01e0d21929ce4863b72ae48adc6486aaa46aac24829a64669bed91fb689a462dba47a99e45e9b247699645a99037299006e99045699005298e14e98a14a984346941f3cfa5e3cea5d3cda5c3cca5b64f2ed68f2a960f2693c42293c01e918530a1290c90a51019400252030ad044081201044043086080041001001)
instance aaX(q i place):bF (Gp q i place) λR=>
 aC q λa=>
 cg (Qk (some ⟨a.b,a.o+65⟩) i) λc=>
 aC q λd=>
 eA (0≤i∧i<8)<|
 st ⟨d.b,d.o+9+i.toNat*6+2⟩ [aE place]<|
 aq ((place==1)||(place==2)) (
 aC q λe=>
 bq (L9 (some ⟨e.b,e.o+65⟩) i (place==1)) λf=>
 R ())<|
 R ():=bG Tryz.func128 (uz 0x10)
instance ad4(c l):bF (PF c l) λR=>
 new (Ks.mk aZ c) λa=>
 ld aZ ⟨a,0⟩ λb=>
 bQ (ZA b) λ(d:bO×Int)=>
 aq (d.2 !=0) (
 new [aE d.2] λe=>
 R (⟨none,0,0⟩,⟨some ⟨e,0⟩,1,1⟩))<|
 loop Ii (⟨none,0,0⟩,⟨none,0,0⟩,0) λf (g:Il)=>
 aq (decide (g.2.2<((l.len:Nat):Int))) (
 idx l g.2.2 15 λh=>
 ld a_ h λi=>
 bQ (ZB d.1 i) λ(j:BH×Int)=>
 new [aY ⟨none,0,0⟩,aY ⟨none,0,0⟩,aY ⟨none,0,0⟩,zu] λk=>
 st ⟨k,0⟩ (Ks.mk dO j.1)<|
 ld dO ⟨k,0⟩ λm=>
 new [aY m.1,aY m.2.1,aY m.2.2.1,aB m.2.2.2] λn=>
 mj 4 g.1 ⟨some ⟨n,0⟩,1,1⟩ λo=>
 new [aE j.2] λp=>
 mj 1 g.2.1 ⟨some ⟨p,0⟩,1,1⟩ λq=>
 f (o,q,(i64.wrap (g.2.2+1))))<|
 R (g.1,g.2.1):=bG Tryz.func10 (uz 0x700708120104a1091080c6080041001001241001001)
instance aeU(d o a a'):bF (Z1 d o a a') λR=>
 aC d λc=>
 bQ (L2 (some ⟨c.b,c.o+7⟩) a a') λ(e:Sl×Int×Int)=>
 aq (e.2.2 !=0) (
 R e.2.2)<|
 aC d λf=>
 bq (T0 (some ⟨f.b,f.o+3⟩) a) λg=>
 loop ci 0 λh (i:Int)=>
 aq (decide (i<((e.1.len:Nat):Int))) (
 bR<|
 aC d λj=>
 idx e.1 i 9 λk=>
 idx e.1 i 9 λl=>
 idx e.1 i 9 λm=>
 dD k 1 λn=>
 bI l λp=>
 lo cw m 2 λ(q:pY)=>
 cj (T1 (some ⟨j.b,j.o+9⟩) o (u64.wrap (n-p)) q) λr=>
 h (i64.wrap (i+1)))<|
 bR<|
 aC d λs=>
 aC d λt=>
 aC d λu=>
 ga s 20 λv=>
 aU (JT (some ⟨u.b,u.o+7⟩)) λw=>
 lI s 20 v<|
 bQ (P_ (some ⟨t.b,t.o+9⟩) o e.2.1 w) λ(x:jT)=>
 lI s 20 v<|
 bq (JU d) λy=>
 lI s 20 v<|
 bQ (P9 v x (u64.wrap y)) λ(z:gd)=>
 R 0:=bG Tryz.func74 (uz 0x1e085e511b907cf99d6585cdc9c3260cb1822850403a500994a2250479401250009790c102091f5135327993a94cd2123070a1811a5b68ba56546a413109493e530a94926530594912504394002590308120104c046080041001241001001)
instance aeW(s n):bF (VF s n) λR=>
 join [] (λa=>
 aq (decide (n<1)) (
 R 1)<|
 aC s λb=>
 dD b 21 λc=>
 aq (decide ((u64.wrap n)>c)) (
 R 1)<|
 a ()) λ(d:Unit)=>
 aC s λe=>
 dD e 21 λf=>
 aC s λg=>
 so g 21 [aB (u64.wrap (f-(u64.wrap n)))]<|
 R 0:=bG Tryz.func76 (uz 0x209004001)
end Go.X
