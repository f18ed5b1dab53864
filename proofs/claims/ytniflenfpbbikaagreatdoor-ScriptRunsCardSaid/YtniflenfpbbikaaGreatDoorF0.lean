/- Readings of functions. -/
import Derived.Test.YtniflenfpbbikaaGreatDoorG
set_option linter.all false
namespace Go.X
open IntKind (u64 i64)
open Go.Proofs
instance aca(a i):bF (UJ a i) λR=>
 aq a.isNone (
 R 2)<|
 join cb (λb=>
 aq (decide (i<0)) (
 b true)<|
 aC a λc=>
 gY c 2 λd=>
 b (decide (i≥d))) λ(e:Bool)=>
 aq e (
 R 1)<|
 cg (U_ a i) λf=>
 aq (!f) (
 R 7)<|
 aC a λg=>
 eP g λh=>
 idx h i 1 λj=>
 st j [bc false]<|
 aC a λk=>
 jn k 1 λl=>
 new [aE i] λm=>
 mj 1 l ⟨some ⟨m,0⟩,1,1⟩ λn=>
 aC a λo=>
 so o 1 [aY n]<|
 R 0:=bG Tryz.func211 (uz 0xb4c00880441c1001081001)
instance aa_(d):bF (Qf d) λR=>
 aq d.isNone (
 R (0,2))<|
 aC d λa=>
 jn a 1 λb=>
 aq (decide (((b.len:Nat):Int)>0)) (
 aC d λc=>
 jn c 1 λe=>
 idx e (i64.wrap (((b.len:Nat):Int)-1)) 1 λf=>
 dn f λg=>
 aC d λh=>
 jn h 1 λi=>
 DV i none (some (i64.wrap (((b.len:Nat):Int)-1))) none 1 λj=>
 aC d λk=>
 so k 1 [aY j]<|
 aC d λl=>
 eP l λm=>
 idx m g 1 λn=>
 st n [bc true]<|
 R (g,0))<|
 bR<|
 aC d λo=>
 aC d λp=>
 eP o λq=>
 gY p 2 λr=>
 aq (decide (((q.len:Nat):Int)≥r)) (
 R (0,5))<|
 aC d λs=>
 eP s λt=>
 new [bc true] λu=>
 mj 1 t ⟨some ⟨u,0⟩,1,1⟩ λv=>
 aC d λw=>
 st w [aY v]<|
 aC d λx=>
 eP x λy=>
 R ((i64.wrap (((y.len:Nat):Int)-1)),0):=bG Tryz.func147 (uz 0x20c819549a442031c21810059400259c3041781241001)
instance ac7(a i):bF (U_ a i) λR=>
 aq ((!a.isNone)&&(decide (i≥0))) (
 aC a λb=>
 eP b λc=>
 aq (decide (i<((c.len:Nat):Int))) (
 aC a λd=>
 eP d λe=>
 idx e i 1 λf=>
 rC f λg=>
 R g)<|
 R false)<|
 R false:=bG Tryz.func267 (uz 8)
instance ae2(n):bF (Z4 n) λR=>
 new [aY ⟨none,0,0⟩,aY ⟨none,0,0⟩,aE (if 4096<(if 0>n then 0 else n)then 4096 else(if 0>n then 0 else n))] λa=>
 R (some ⟨a,0⟩):=bG Tryz.func88 (uz 8)
instance abe(m):bF (wP m) λR=>
 new [zi,zi,zu,zu,zu,zu,zu,zu,bc false,bc false] λa=>
 aq m.isNone (
 st ⟨a,0⟩ [zi,zi,zu,zu,zu,zu,zu,zu,bc false,bc false]<|
 ld eH ⟨a,0⟩ λb=>
 R b)<|
 bR<|
 aC m λc=>
 aC m λd=>
 aC m λe=>
 aC m λf=>
 aC m λg=>
 aC m λh=>
 aC m λi=>
 gY c 7 λj=>
 dD d 8 λk=>
 dD e 9 λl=>
 ga f 4 λn=>
 ga g 1 λo=>
 ga h 3 λp=>
 ga i 2 λq=>
 aU (Gr m) λr=>
 lI i 2 q<|
 lI h 3 p<|
 lI g 1 o<|
 lI f 4 n<|
 lJ e 9 l<|
 lJ d 8 k<|
 GS c 7 j<|
 aU (Gs n) λs=>
 lI i 2 q<|
 lI h 3 p<|
 lI g 1 o<|
 lJ e 9 l<|
 lJ d 8 k<|
 GS c 7 j<|
 aU (Qo m) λt=>
 lI i 2 q<|
 lI h 3 p<|
 lI g 1 o<|
 lJ e 9 l<|
 lJ d 8 k<|
 GS c 7 j<|
 aU (Qp o) λu=>
 lI i 2 q<|
 lI h 3 p<|
 lJ e 9 l<|
 lJ d 8 k<|
 GS c 7 j<|
 bq (UL p) λv=>
 lI i 2 q<|
 lJ e 9 l<|
 lJ d 8 k<|
 GS c 7 j<|
 cg (ED q) λw=>
 lJ e 9 l<|
 lJ d 8 k<|
 GS c 7 j<|
 cg (Me m) λx=>
 lJ e 9 l<|
 lJ d 8 k<|
 GS c 7 j<|
 st ⟨a,0⟩ [aE j,aE v,aB k,aB l,aB r,aB s,aB t,aB u,bc w,bc x]<|
 ld eH ⟨a,0⟩ λy=>
 R y:=bG Tryz.func152 (uz 0x20dc29eadb4bea96379c34998aff5966ce39ae7a6a599a452689299d366ca295d6112c70f186571740a182c2095b58f24504092501f9406a50159404e500e9403250089401250009450c1241001)
instance acA(d o a):bF (Qr d o a) λR=>
 new (Ks.mk aW o) λb=>
 new [zi,zi,zu,zu,zu,zu,zu,zu,bc false,bc false] λc=>
 aq d.isNone (
 st ⟨c,0⟩ [zi,zi,zu,zu,zu,zu,zu,zu,bc false,bc false]<|
 ld eH ⟨c,0⟩ λe=>
 R e)<|
 bR<|
 ld aW ⟨b,0⟩ λf=>
 aC d λg=>
 ga g 1 λh=>
 cg (Vg h f) λi=>
 bR<|
 ld aW ⟨b,0⟩ λj=>
 aC d λk=>
 ga k 5 λl=>
 cj (Vh l i j) λm=>
 ld aW ⟨b,0⟩ λn=>
 cj (Vi d n) λp=>
 join [] (λq=>
 join cb (λr=>
 aC d λs=>
 gY s 7 λt=>
 aq (t==2) (
 cg (Me d) λu=>
 r (!u))<|
 r false) λ(v:Bool)=>
 aq v (
 bR<|
 aC d λw=>
 bI ⟨b,0⟩ λx=>
 aC d λy=>
 bI ⟨b,6⟩ λz=>
 bI ⟨b,7⟩ λA=>
 ga w 3 λB=>
 ga y 4 λC=>
 aU (Gs C) λD=>
 lI w 3 B<|
 ct ⟨b,7⟩ (Ks.mk cu A)<|
 ct ⟨b,6⟩ (Ks.mk cu z)<|
 ct ⟨b,0⟩ (Ks.mk cu x)<|
 aU (Mo d 320) λE=>
 lI w 3 B<|
 ct ⟨b,7⟩ (Ks.mk cu A)<|
 ct ⟨b,6⟩ (Ks.mk cu z)<|
 ct ⟨b,0⟩ (Ks.mk cu x)<|
 aU (Mo d 256) λF=>
 lI w 3 B<|
 ct ⟨b,7⟩ (Ks.mk cu A)<|
 ct ⟨b,6⟩ (Ks.mk cu z)<|
 ct ⟨b,0⟩ (Ks.mk cu x)<|
 cg (Vj B x D z A E F) λG=>
 q ())<|
 q ()) λ(H:Unit)=>
 bR<|
 aC d λI=>
 rC ⟨b,8⟩ λJ=>
 aC d λK=>
 ga I 2 λL=>
 te K λM=>
 aU (Mn M) λN=>
 lI I 2 L<|
 ct ⟨b,8⟩ (Ks.mk cb J)<|
 cg (Vk L i J N) λO=>
 ld aW ⟨b,0⟩ λQ=>
 cj (Vl d Q) λS=>
 ld aW ⟨b,0⟩ λT=>
 cj (Vm d T i) λU=>
 cj (Vn d) λV=>
 ld aW ⟨b,0⟩ λX=>
 cj (Vo d X i) λY=>
 ld aW ⟨b,0⟩ λZ=>
 cj (Vp d Z a) λa0=>
 bQ (wP d) λ(a1:gd)=>
 st ⟨c,0⟩ (Ks.mk eH a1)<|
 ld eH ⟨c,0⟩ λa2=>
 R a2:=bG Tryz.func234 (uz 0x5207175543326cb98a0c90881810079441651c4940025e0304082385f75b5944fe8929a042668a9890c808e3071410119403e510d9442e50069441250009640c1002901100100060595506b830811059471250009500c18161a63ce16a0c204412500094a0c1241001)
instance adS(m):bF (QL m) λR=>
 bR<|
 aC m λa=>
 aC m λb=>
 dD a 9 λc=>
 dD b 10 λd=>
 aC m λe=>
 so e 9 [aB (if d>c then d else c)]<|
 aC m λf=>
 so f 10 [zu]<|
 R ():=bG Tryz.func313 (uz 0x81f4263cf9433a538c36a3022e52c72a92452041c30069400a5001940025043)
instance adt(m gain):bF (Mo m gain) λR=>
 bR<|
 aC m λa=>
 ga a 4 λb=>
 aU (Gr m) λc=>
 lI a 4 b<|
 aU (Gs b) λd=>
 aU (QJ c d gain) λe=>
 R e:=bG Tryz.func288 (uz 0x80d26630b188b8a1a61419851030479400a50009440c1001)
instance acm(m):bF (Gr m) λR=>
 aC m λa=>
 ga a 5 λb=>
 bQ (QB b) λ(c:Int×Bool)=>
 aq c.2 (
 R c.1)<|
 aC m λd=>
 te d λe=>
 aU (Mn e) λf=>
 R f:=bG Tryz.func221 (uz 0x1f)
instance adP(m aj):bF (QK m aj) λR=>
 aC m λa=>
 so a 7 [aE 2]<|
 aC m λb=>
 ga b 3 λc=>
 cj (QI c aj 2) λd=>
 R ():=bG Tryz.func310 (uz 7)
instance adR(m):bF (Mq m) λR=>
 aC m λa=>
 dD a 6 λb=>
 R (u64.wrap (4*b)):=bG Tryz.func312 (uz 8)
instance aco(m):bF (Qo m) λR=>
 aC m λa=>
 gY a 7 λb=>
 aq (b==0) (
 R 739)<|
 aC m λc=>
 gY c 7 λd=>
 aq (d==1) (
 R 88)<|
 join cb (λe=>
 aC m λf=>
 gY f 7 λg=>
 aq (g==2) (
 cg (Me m) λh=>
 e (!h))<|
 e false) λ(i:Bool)=>
 aq i (
 aC m λj=>
 ga j 3 λk=>
 aU (Vf k) λl=>
 R l)<|
 R 256:=bG Tryz.func223 (uz 0x730008f0441c10011c1001081001)
instance adw(m s start):bF (Vm m s start) λR=>
 new (Ks.mk aW s) λa=>
 bR<|
 aC m λb=>
 bI ⟨a,0⟩ λc=>
 bI ⟨a,4⟩ λd=>
 bI ⟨a,7⟩ λe=>
 ga b 4 λf=>
 aU (Mq m) λg=>
 lI b 4 f<|
 ct ⟨a,7⟩ (Ks.mk cu e)<|
 ct ⟨a,4⟩ (Ks.mk cu d)<|
 ct ⟨a,0⟩ (Ks.mk cu c)<|
 bQ (Vw f c d start e g) λ(h:Bool×Bool)=>
 aq h.1 (
 bR<|
 aC m λi=>
 aC m λj=>
 dD i 10 λk=>
 dD j 9 λl=>
 aC m λn=>
 so n 10 [aB (if l>k then l else k)]<|
 aC m λo=>
 so o 7 [aE 3]<|
 R ())<|
 aq h.2 (
 cj (QL m) λp=>
 aC m λq=>
 so q 7 [zi]<|
 aC m λr=>
 ga r 2 λt=>
 cg (ED t) λu=>
 aq u (
 bI ⟨a,0⟩ λv=>
 cj (QK m v) λw=>
 R ())<|
 R ())<|
 R ():=bG Tryz.func291 (uz 0x2081f42678f9523a575b36a3112e56962a92452041c30069400a50019400256830400428204a67d198842520f94e75b65838c37a70c98308a1c50402e51099422251069441250009480c1001)
instance adr(m s):bF (Vi m s) λR=>
 new (Ks.mk aW s) λa=>
 join [] (λb=>
 bI ⟨a,5⟩ λc=>
 aq (c==0) (
 R ())<|
 bI ⟨a,3⟩ λd=>
 aq (d==0) (
 R ())<|
 b ()) λ(e:Unit)=>
 bR<|
 bI ⟨a,1⟩ λf=>
 bI ⟨a,2⟩ λg=>
 bI ⟨a,3⟩ λh=>
 aU (y_ f g) λi=>
 ct ⟨a,3⟩ (Ks.mk cu h)<|
 aU (EC i 1000000000 h) λj=>
 join cb (λk=>
 rC ⟨a,8⟩ λl=>
 aq (!l) (
 k true)<|
 aC m λn=>
 te n λo=>
 aU (Mn o) λp=>
 k (decide (j≥p))) λ(q:Bool)=>
 aq q (
 bR<|
 aC m λr=>
 aC m λt=>
 te r λu=>
 ga t 1 λv=>
 aU (Qp v) λw=>
 ct r (Ks.mk cp u)<|
 aU (Vu u w j) λx=>
 R ())<|
 R ():=bG Tryz.func286 (uz 0x81a6542ae6089870c60850442650049400258030400a00448182265d51ea50e12a1830431650c2943025303048004001)
instance adv(m s):bF (Vl m s) λR=>
 new (Ks.mk aW s) λa=>
 loop [] () λb (c:Unit)=>
 join cb (λd=>
 aC m λe=>
 gY e 7 λf=>
 aq (f==0) (
 aC m λg=>
 ga g 2 λh=>
 cg (ED h) λi=>
 d i)<|
 d false) λ(j:Bool)=>
 aq j (
 aC m λk=>
 so k 7 [aE 1]<|
 b ())<|
 join cb (λl=>
 bR<|
 aC m λn=>
 gY n 7 λo=>
 aq (o==1) (
 aC m λp=>
 ga p 4 λq=>
 aU (Gs q) λr=>
 aq (decide (r>0)) (
 bI ⟨a,7⟩ λt=>
 aU (Mo m 256) λu=>
 ct ⟨a,7⟩ (Ks.mk cu t)<|
 l (decide (t≤u)))<|
 l false)<|
 l false) λ(v:Bool)=>
 aq v (
 bI ⟨a,0⟩ λw=>
 cj (QK m w) λx=>
 R ())<|
 R ():=bG Tryz.func290 (uz 0xc8245268de4e98a0792b61791a9f78fa5e010a5e0cea4d7163296d62e96962aa6562696162295d61e95801a91440c2040025503094044001002101102080182001001)
instance adx(m):bF (Vn m) λR=>
 aU (Gr m) λa=>
 aq (a==0) (
 R ())<|
 aU (Gr m) λb=>
 aU (Qo m) λc=>
 aU (Qg b c) λd=>
 join cb (λe=>
 aC m λf=>
 ga f 2 λg=>
 cg (ED g) λh=>
 aq h (
 e true)<|
 aC m λi=>
 dD i 8 λj=>
 e (decide ((if 1>d then 1 else d)>j))) λ(k:Bool)=>
 aq k (
 aC m λl=>
 so l 8 [aB (if 1>d then 1 else d)]<|
 R ())<|
 R ():=bG Tryz.func292 (uz 0x1c0098044001201)
instance acs(m):bF (Me m) λR=>
 aC m λa=>
 ga a 5 λb=>
 bQ (QB b) λ(c:Int×Bool)=>
 R c.2:=bG Tryz.func227 (uz 0xb)
instance ady(d o a):bF (Vo d o a) λR=>
 new (Ks.mk aW o) λb=>
 join cb (λc=>
 bI ⟨b,6⟩ λe=>
 aq (decide (e>0)) (
 aC d λf=>
 oI f 11 λg=>
 c (!g))<|
 c false) λ(h:Bool)=>
 aq h (
 bI ⟨b,1⟩ λi=>
 bI ⟨b,7⟩ λj=>
 aU (oH i j) λk=>
 aC d λl=>
 so l 11 [bc true]<|
 aC d λm=>
 so m 12 [bc true]<|
 aC d λn=>
 so n 13 [aB k]<|
 bR<|
 aC d λp=>
 aC d λq=>
 dD p 10 λr=>
 dD q 9 λs=>
 aC d λt=>
 so t 10 [aB (if s>r then s else r)]<|
 R ())<|
 aC d λu=>
 oI u 11 λv=>
 aq v (
 aC d λw=>
 oI w 12 λx=>
 aC d λy=>
 so y 12 [bc (x&&(!a))]<|
 bR<|
 bI ⟨b,1⟩ λz=>
 aC d λA=>
 dD A 13 λB=>
 aq (decide (z<B)) (
 R ())<|
 aC d λC=>
 so C 11 [bc false]<|
 aC d λD=>
 so D 12 [bc false]<|
 aC d λE=>
 gY E 7 λF=>
 aq (F !=3) (
 cj (QL d) λG=>
 R ())<|
 R ())<|
 R ():=bG Tryz.func293 (uz 0xb1e05921a91440c1002944025e8304100104006071a32a2d12a56552692041c318200594006500095e0c0041002181102001)
instance adU(m):bF (Vy m) λR=>
 aC m λa=>
 gY a 7 λb=>
 aq (b==2) (
 R 512)<|
 aq (b==3) (
 R 256)<|
 R 739:=bG Tryz.func315 (uz 0x1cd080041001)
instance adz(d o a):bF (Vp d o a) λR=>
 new (Ks.mk aW o) λb=>
 bR<|
 aC d λc=>
 bI ⟨b,6⟩ λe=>
 aC d λf=>
 dD c 9 λg=>
 dD f 6 λh=>
 aU (y_ g e) λi=>
 lJ f 6 h<|
 aC d λj=>
 so j 9 [aB (if h>i then h else i)]<|
 join [] (λk=>
 aC d λl=>
 oI l 12 λm=>
 aq m (
 bR<|
 aC d λn=>
 bI ⟨b,7⟩ λp=>
 bI ⟨b,5⟩ λq=>
 dD n 9 λr=>
 aU (oH p q) λs=>
 lJ n 9 r<|
 aC d λt=>
 so t 9 [aB (if s>r then s else r)]<|
 k ())<|
 bI ⟨b,5⟩ λu=>
 aq (decide (u>0)) (
 bR<|
 aC d λv=>
 aC d λw=>
 ga v 4 λx=>
 dD w 6 λy=>
 aU (Gr d) λz=>
 lJ w 6 y<|
 lI v 4 x<|
 aU (Gs x) λA=>
 lJ w 6 y<|
 aU (Vy d) λB=>
 lJ w 6 y<|
 aU (Vx z A B a y) λC=>
 aC d λD=>
 ga D 2 λE=>
 cg (ED E) λF=>
 aq F (
 bR<|
 aC d λG=>
 bI ⟨b,5⟩ λH=>
 dD G 9 λI=>
 aU (oH I H) λJ=>
 aC d λK=>
 so K 9 [aB (if C<J then C else J)]<|
 k ())<|
 join cb (λL=>
 bR<|
 aC d λM=>
 dD M 9 λN=>
 aq (decide (N<C)) (
 L true)<|
 bI ⟨b,1⟩ λO=>
 aC d λQ=>
 dD Q 6 λS=>
 L (decide (O<(u64.wrap (10*S))))) λ(T:Bool)=>
 aq T (
 bR<|
 aC d λU=>
 bI ⟨b,5⟩ λV=>
 dD U 9 λX=>
 aU (oH X V) λY=>
 aC d λZ=>
 so Z 9 [aB Y]<|
 k ())<|
 k ())<|
 k ()) λ(a0:Unit)=>
 bR<|
 aC d λa1=>
 dD a1 9 λa2=>
 aU (Mq d) λa3=>
 lJ a1 9 a2<|
 aC d λa4=>
 so a4 9 [aB (if a3>a2 then a3 else a2)]<|
 aC d λa5=>
 gY a5 7 λa6=>
 aq (a6==3) (
 aU (Mq d) λa7=>
 aC d λa8=>
 so a8 9 [aB a7]<|
 R ())<|
 R ():=bG Tryz.func294 (uz 0x2206982aa2512255d51e95869840c2005940065000964fc30400206982aa2512255d51ea10318210594006500095afc30607d73e97995ceb5d5cda5c5cca5b5cba5a5caa585c8a57009a57107a465541690c204612500094afc309afc112071a32a2d12a56582695d51ea103182188944165001940025f430400607cf99e6995d23b66089961a644198d14c10b0c02a50899401e5002940025a4304100181d6cda8c44b95a54aa595c9a840c81821079441650019400256430400401207dd3ea38736570e32934b1ea2c42832460802251059400650009460c1001)
instance aaA(bt):bF (P5 bt) λR=>
 lY (T9 10) λa=>
 lY T_ λb=>
 lY Ua λc=>
 lY Ub λd=>
 lY Uc λe=>
 lY Ud λf=>
 new [.ptr a,.ptr b,.ptr c,.ptr d,.ptr e,.ptr f,aB (if 9000<(if 100>bt then 100 else bt)then 9000 else(if 100>bt then 100 else bt)),zi,zu,zu,zu,bc false,bc false,zu] λg=>
 aC (some ⟨g,0⟩) λh=>
 so h 9 [aB (u64.wrap (10*(if 9000<(if 100>bt then 100 else bt)then 9000 else(if 100>bt then 100 else bt))))]<|
 aC (some ⟨g,0⟩) λi=>
 dD i 9 λj=>
 aU (Qg (u64.wrap (j*1000)) 739) λk=>
 aC (some ⟨g,0⟩) λl=>
 so l 8 [aB k]<|
 R (some ⟨g,0⟩):=bG Tryz.func105 (uz 0x14)
instance abr(d o a):bF (Qh d o a) λR=>
 aq d.isNone (
 R (⟨none,0,0⟩,0,2))<|
 cg (UN d o a) λb=>
 aq (!b) (
 R (⟨none,0,0⟩,0,11))<|
 aC d λc=>
 eP c λe=>
 loop Ii (⟨none,0,0⟩,⟨none,0,0⟩,0) λf (g:Il)=>
 aq (decide (g.2.2<((e.len:Nat):Int))) (
 idx e g.2.2 9 λh=>
 ld aF h λi=>
 new [zu,zu,zu,zu,zu,zu,bc false,bc false,bc false] λj=>
 st ⟨j,0⟩ (Ks.mk aF i)<|
 bI ⟨j,1⟩ λk=>
 join cl (λl=>
 join cb (λm=>
 rC ⟨j,7⟩ λn=>
 aq (!n) (
 aq (decide (k≤o)) (
 m true)<|
 ld aF ⟨j,0⟩ λp=>
 cg (UO a p) λq=>
 m q)<|
 m false) λ(r:Bool)=>
 aq r (
 ld aF ⟨j,0⟩ λs=>
 new [aB s.1,aB s.2.1,aB s.2.2.1,aB s.2.2.2.1,aB s.2.2.2.2.1,aB s.2.2.2.2.2.1,bc s.2.2.2.2.2.2.1,bc s.2.2.2.2.2.2.2.1,bc s.2.2.2.2.2.2.2.2] λt=>
 mj 9 g.1 ⟨some ⟨t,0⟩,1,1⟩ λu=>
 st ⟨j,7⟩ [bc true]<|
 st ⟨j,8⟩ [bc false]<|
 l u)<|
 l g.1) λ(v:Sl)=>
 aq (decide (k≤o)) (
 f (v,g.2.1,(i64.wrap (g.2.2+1))))<|
 ld aF ⟨j,0⟩ λw=>
 new [aB w.1,aB w.2.1,aB w.2.2.1,aB w.2.2.2.1,aB w.2.2.2.2.1,aB w.2.2.2.2.2.1,bc w.2.2.2.2.2.2.1,bc w.2.2.2.2.2.2.2.1,bc w.2.2.2.2.2.2.2.2] λx=>
 mj 9 g.2.1 ⟨some ⟨x,0⟩,1,1⟩ λy=>
 f (v,y,(i64.wrap (g.2.2+1))))<|
 aC d λz=>
 st z [aY g.2.1]<|
 aU (UP d) λA=>
 R (g.1,A,0):=bG Tryz.func164 (uz 0x20038c002b8110424110004004204704004170428424318200104004004d081001)
instance abA(b s):bF (Ez b s) λR=>
 new (Ks.mk cw s) λa=>
 new [zu,zu] λc=>
 bQ (Qs b) λ(d:(Int×Int)×Bool)=>
 new [zu,zu] λe=>
 st ⟨e,0⟩ (Ks.mk cr d.1)<|
 join [] (λf=>
 aq d.2 (
 bR<|
 aC b λg=>
 eP g λh=>
 bq (Mg b) λi=>
 ct g (Ks.mk cl h)<|
 idx h i 9 λj=>
 bR<|
 ld cw ⟨a,0⟩ λk=>
 aC (some j) λl=>
 so l 8 [bc false]<|
 ct ⟨a,0⟩ (Ks.mk cw k)<|
 aC (some j) λm=>
 so m 2 (Ks.mk cw k)<|
 f ())<|
 f ()) λ(n:Unit)=>
 ld cr ⟨e,0⟩ λ(o:Int×Int)=>
 st ⟨c,0⟩ (Ks.mk cr o)<|
 ld cr ⟨c,0⟩ λ(p:Int×Int)=>
 R (p,d.2):=bG Tryz.func172 (uz 0x7020ae722aa879661a5a459a81259439422019480250438171e65941a9545983081004940025383041001004001001)
instance adB(b):bF (QD b) λR=>
 new [.ptr b] λa=>
 R (.mk (.func h_) [] [V1.enc (.lf (.ptr (some ⟨a,0⟩)))]):=bG Tryz.func296 (uz 8)
instance adV(yield c0):bF (Vz yield c0) λR=>
 te c0 λa=>
 aq a.isNone (
 R ())<|
 te c0 λb=>
 aC b λc=>
 eP c λd=>
 loop ci 0 λe (f:Int)=>
 aq (decide (f<((d.len:Nat):Int))) (
 idx d f 9 λg=>
 ld aF g λh=>
 new [zu,zu,zu,zu,zu,zu,bc false,bc false,bc false] λi=>
 st ⟨i,0⟩ (Ks.mk aF h)<|
 ld aF ⟨i,0⟩ λj=>
 qa Tryz.prog yield [.agg (Ks.mk aF j)] [qb] λ(k:Bool)=>
 aq (!k) (
 R ())<|
 e (i64.wrap (f+1)))<|
 R ():=bG Tryz.func316 (uz 0x2c2047040041301182001201)
instance acJ(b):PJ (UW b) λn0 R=>
 new [zu] λa=>
 st ⟨a,0⟩ [zu]<|
 bQ (QD b) λ(c:Fv)=>
 qU Tryz.prog c [.agg aF] (λ(d:yQ) e f g=>
 new [zu,zu,zu,zu,zu,zu,bc false,bc false,bc false] λh=>
 st ⟨h,0⟩ (Ks.mk aF d)<|
 e<|
 ld aF ⟨h,0⟩ λi=>
 cg (Mf i) λj=>
 aq j (
 bI ⟨a,0⟩ λk=>
 bI ⟨h,1⟩ λl=>
 bI ⟨h,0⟩ λm=>
 st ⟨a,0⟩ [aB (u64.wrap (k+(u64.wrap (l-m))))]<|
 f)<|
 f) λn=>pJ 0 n (bI ⟨a,0⟩ λo=>
 lZ n0<|R o)<|
 gX:=VK Tryz.func243 (.s .o (.s .o (.s (.s .o (.b (.r [.agg aF] .o (.b (.s .o (.s .o .o)))))) (.s .o .o))))
instance acI(b):bF (UU b) λR=>
 aq b.isNone (
 R 0)<|
 aC b λa=>
 eP a λc=>
 R ((c.len:Nat):Int):=bG Tryz.func242 (uz 0xa)
instance abw(b):bF (Uj b) λR=>
 aq b.isNone (
 R 0)<|
 aC b λa=>
 eP a λc=>
 loop [.int .u64,.int .i64] (0,0) λd (e:Int×Int)=>
 aq (decide (e.2<((c.len:Nat):Int))) (
 idx c e.2 9 λf=>
 ld aF f λg=>
 new [zu,zu,zu,zu,zu,zu,bc false,bc false,bc false] λh=>
 st ⟨h,0⟩ (Ks.mk aF g)<|
 ld aF ⟨h,0⟩ λi=>
 cg (Mf i) λj=>
 aq j (
 aC b λk=>
 eP k λl=>
 idx l e.2 9 λm=>
 so m 8 [bc true]<|
 bI ⟨h,1⟩ λn=>
 bI ⟨h,0⟩ λo=>
 d ((u64.wrap (e.1+(u64.wrap (n-o)))),(i64.wrap (e.2+1))))<|
 d (e.1,(i64.wrap (e.2+1))))<|
 R e.1:=bG Tryz.func168 (uz 0x700f0811c100104d003086080041001241001)
instance acD(b):bF (Qs b) λR=>
 new [zu,zu] λa=>
 bq (Mg b) λc=>
 aq (decide (c<0)) (
 st ⟨a,0⟩ [zu,zu]<|
 ld cr ⟨a,0⟩ λ(d:Int×Int)=>
 R (d,false))<|
 bR<|
 aC b λe=>
 aC b λf=>
 eP e λg=>
 eP f λh=>
 idx g c 9 λi=>
 idx h c 9 λj=>
 bI i λk=>
 dD j 1 λl=>
 st ⟨a,0⟩ [aB k,aB l]<|
 ld cr ⟨a,0⟩ λ(m:Int×Int)=>
 R (m,true):=bG Tryz.func237 (uz 0x8128a1091aa0610a4f1ce19d70da4e345a4b0ca0890443250089441250009490c1241001001)
instance abD(b from' to' s):bF (EB b from' to' s) λR=>
 new (Ks.mk cw s) λa=>
 aq b.isNone (
 R 2)<|
 aC b λc=>
 dD c 1 λd=>
 aq ((from' !=d)||(decide (to'≤from'))) (
 R 1)<|
 aC b λe=>
 eP e λf=>
 aq (decide (((f.len:Nat):Int)≥4096)) (
 R 5)<|
 bR<|
 ld cw ⟨a,0⟩ λg=>
 aC b λh=>
 eP h λi=>
 new [aB from',aB to',aB g.1,aB g.2.1,aB g.2.2.1,aB g.2.2.2.1,bc g.2.2.2.2,bc false,bc false] λj=>
 ct h (Ks.mk cl i)<|
 mj 9 i ⟨some ⟨j,0⟩,1,1⟩ λk=>
 aC b λl=>
 st l [aY k]<|
 aC b λm=>
 so m 1 [aB to']<|
 R 0:=bG Tryz.func175 (uz 0x22075b36a3112e56952aa6499840d85d622d0871e5086941165001940025783055081001)
instance acK(b):PJ (Mg b) λn0 R=>
 new [zi] λa=>
 new [zi] λc=>
 st ⟨c,0⟩ [zi]<|
 bQ (QD b) λ(d:Fv)=>
 qU Tryz.prog d [.agg aF] (λ(e:yQ) f g h=>
 new [zu,zu,zu,zu,zu,zu,bc false,bc false,bc false] λi=>
 st ⟨i,0⟩ (Ks.mk aF e)<|
 f<|
 rC ⟨i,8⟩ λj=>
 aq j (
 dn ⟨c,0⟩ λk=>
 st ⟨a,0⟩ [aE k]<|
 h 1)<|
 dn ⟨c,0⟩ λl=>
 st ⟨c,0⟩ [aE (i64.wrap (l+1))]<|
 g) λm=>pJ 0 m (st ⟨a,0⟩ [aE (-1)]<|
 dn ⟨a,0⟩ λn=>
 lZ n0<|R n)<|
 pJ 1 m (dn ⟨a,0⟩ λo=>
 lZ n0<|R o)<|
 gX:=VK Tryz.func244 (.s .o (.s .o (.s (.s .o (.b (.r [.agg aF] .o (.b (.s (.s .o (.s (.s .o .o) .o)) .o))))) (.s .o .o))))
instance acw(b upto sacks):bF (UN b upto sacks) λR=>
 new [.ptr b] λa=>
 te ⟨a,0⟩ λc=>
 aC c λd=>
 dD d 1 λe=>
 aq (decide (upto≤e)) (
 cg (QC sacks (.mk (.func mU) [] [V1.enc (.lf (.ptr (some ⟨a,0⟩)))])) λf=>
 R (!f))<|
 R false:=bG Tryz.func230 (uz 8)
instance adn(r c0):bF (XK r c0) λR=>
 new (Ks.mk cr r) λa=>
 bR<|
 te c0 λb=>
 bI ⟨a,1⟩ λc=>
 aC b λd=>
 dD d 1 λe=>
 aq (decide (c>e)) (
 R true)<|
 bI ⟨a,0⟩ λf=>
 bI ⟨a,1⟩ λg=>
 R (decide (f≥g)):=bG Tryz.func282 (uz 0x2078e99d2cda4f34b32d38b2e930b2692c22a92c22291c9146a451030410a50809430c1001)
instance acy(b):bF (UP b) λR=>
 aC b λa=>
 eP a λc=>
 loop SE (0,0,(i64.wrap (((c.len:Nat):Int)-1))) λd (e:SK)=>
 aq (decide (e.2.2≥0)) (
 aC b λf=>
 eP f λg=>
 idx g e.2.2 9 λh=>
 join ci (λi=>
 aC (some h) λj=>
 oI j 7 λk=>
 aq k (
 i (i64.wrap (e.2.1+1)))<|
 i e.2.1) λ(l:Int)=>
 aC (some h) λm=>
 ld aF m λn=>
 cg (Mf n) λo=>
 aq (o&&(decide (l≥3))) (
 aC (some h) λp=>
 so p 8 [bc true]<|
 bR<|
 aC (some h) λq=>
 aC (some h) λr=>
 dD q 1 λs=>
 bI r λt=>
 d ((u64.wrap (e.1+(u64.wrap (s-t)))),l,(i64.wrap (e.2.2-1))))<|
 d (e.1,l,(i64.wrap (e.2.2-1))))<|
 R e.1:=bG Tryz.func232 (uz 0x1c00206cb99a44aa59549a481070c60861651819430259c30010400480440440010812010450440030c6080041001001)
instance aay:bF TP λR=>
 new [aY ⟨none,0,0⟩,zu] λa=>
 R (some ⟨a,0⟩):=bG Tryz.func103 (uz 8)
instance acC(p):bF (Mf p) λR=>
 new (Ks.mk aF p) λa=>
 rC ⟨a,7⟩ λb=>
 aq (!b) (
 rC ⟨a,8⟩ λc=>
 R (!c))<|
 R false:=bG Tryz.func236 (uz 8)
instance acx(sacks p):bF (UO sacks p) λR=>
 new (Ks.mk aF p) λa=>
 cg (QC sacks (.mk (.func pR) [] [V1.enc (.lf (.ptr (some ⟨a,0⟩)))])) λb=>
 R b:=bG Tryz.func231 (uz 8)
instance ado(r c0):bF (XL r c0) λR=>
 new (Ks.mk cr r) λa=>
 bI ⟨a,0⟩ λc=>
 bI c0 λd=>
 aq (decide (c≤d)) (
 bI ⟨a,1⟩ λe=>
 bI ⟨c0.b,c0.o+1⟩ λf=>
 R (decide (e≥f)))<|
 R false:=bG Tryz.func283 (uz 8)
instance abt(b upto):bF (Uh b upto) λR=>
 aq b.isNone (
 R 2)<|
 aC b λa=>
 dD a 1 λc=>
 aq (decide (upto>c)) (
 R 11)<|
 aC b λd=>
 dD d 2 λe=>
 aC b λf=>
 so f 2 [aB (if upto>e then upto else e)]<|
 R 0:=bG Tryz.func165 (uz 0x20d081001)
instance acv(b):bF (UM b) λR=>
 aq b.isNone (
 R 0)<|
 bR<|
 aC b λa=>
 aC b λc=>
 bI a λd=>
 dD c 2 λe=>
 R (u64.wrap (d-e)):=bG Tryz.func229 (uz 0x2034998c208a470c60850401250009440c1241001)
instance abB(b most):bF (EA b most) λR=>
 new [zu,zu] λa=>
 new [zu,zu] λc=>
 st ⟨c,0⟩ [zu,zu]<|
 join cb (λd=>
 loop cb false λe (f:Bool)=>
 aq (decide (most≥1)) (
 aU (Qt b) λg=>
 aq ((if g<(u64.wrap most)then g else(u64.wrap most))==0) (
 d f)<|
 bR<|
 aC b λh=>
 aC b λi=>
 dD h 1 λj=>
 dD i 1 λk=>
 st ⟨c,0⟩ [aB j,aB (u64.wrap (k+(if g<(u64.wrap most)then g else(u64.wrap most))))]<|
 aC b λl=>
 dD l 1 λm=>
 aC b λn=>
 so n 1 [aB (u64.wrap (m+(if g<(u64.wrap most)then g else(u64.wrap most))))]<|
 d true)<|
 d f) λ(o:Bool)=>
 ld cr ⟨c,0⟩ λ(p:Int×Int)=>
 st ⟨a,0⟩ (Ks.mk cr p)<|
 ld cr ⟨a,0⟩ λ(q:Int×Int)=>
 R (q,o):=bG Tryz.func173 (uz 0x71e03226c62ea6942a96582691c31821412089401250009520c12010010880421c1182087044001001001)
instance acE(b):bF (Qt b) λR=>
 aq b.isNone (
 R 0)<|
 bR<|
 aC b λa=>
 aC b λc=>
 bI a λd=>
 dD c 1 λe=>
 R (u64.wrap (d-e)):=bG Tryz.func238 (uz 0x2034998c208a470c60850401250009440c1241001)
instance abq(b n):bF (Ug b n) λR=>
 aq b.isNone (
 R 2)<|
 aq (decide (n<1)) (
 R 1)<|
 bR<|
 aC b λa=>
 dD a 3 λc=>
 aU (UM b) λd=>
 lJ a 3 c<|
 aq (decide ((u64.wrap n)>(u64.wrap (c-d)))) (
 R 5)<|
 aC b λe=>
 bI e λf=>
 aC b λg=>
 st g [aB (u64.wrap (f+(u64.wrap n)))]<|
 R 0:=bG Tryz.func163 (uz 0x832068a999349a58588a571e61440c10069400a504094b0c11c10011c1001081001)
instance aax(n):bF (TO n) λR=>
 new [zu,zu,zu,aB (u64.wrap (if 1073741824<(if 0>n then 0 else n)then 1073741824 else(if 0>n then 0 else n)))] λa=>
 R (some ⟨a,0⟩):=bG Tryz.func102 (uz 8)
instance adC(l x):bF (QE l x) λR=>
 loop ci 0 λa (b:Int)=>
 aq (decide (b<((l.len:Nat):Int))) (
 idx l b 1 λc=>
 dn c λd=>
 aq (d==x) (
 R true)<|
 a (i64.wrap (b+1)))<|
 R false:=bG Tryz.func297 (uz 0x7009081201045046080041001)
instance ad7(a b):bF (c13 a b) λR=>
 new (Ks.mk dO a) λc=>
 new (Ks.mk dO b) λd=>
 eP ⟨c,0⟩ λe=>
 eP ⟨d,0⟩ λf=>
 cg (YO e f) λg=>
 aq g (
 eP ⟨c,1⟩ λh=>
 eP ⟨d,1⟩ λi=>
 cg (YO h i) λj=>
 aq j (
 eP ⟨c,2⟩ λk=>
 eP ⟨d,2⟩ λl=>
 cg (ZC k l) λm=>
 aq m (
 bI ⟨c,3⟩ λn=>
 bI ⟨d,3⟩ λo=>
 R (n==o))<|
 R false)<|
 R false)<|
 R false:=bG Tryz.func13 (uz 8)
instance ad8(a b):bF (YM a b) λR=>
 cg (ZD a b (.mk (.func iG) [] [])) λc=>
 R c:=bG Tryz.func14 (uz 8)
instance aek(x y):bF (c29 x y) λR=>
 R (x==y):=bG Tryz.func29 (uz 8)
instance aeh(a b):bF (YO a b) λR=>
 cg (ZO a b (.mk (.func jl) [] [])) λc=>
 R c:=bG Tryz.func26 (uz 8)
instance aez(x y):bF (c50 x y) λR=>
 new (Ks.mk aX x) λa=>
 new (Ks.mk aX y) λb=>
 ld aX ⟨a,0⟩ λc=>
 ld aX ⟨b,0⟩ λd=>
 R ((c.1==d.1)&&((c.2.1==d.2.1)&&((c.2.2.1==d.2.2.1)&&((c.2.2.2.1==d.2.2.2.1)&&(c.2.2.2.2==d.2.2.2.2))))):=bG Tryz.func50 (uz 8)
instance aei(a b):bF (ZC a b) λR=>
 cg (ZP a b (.mk (.func kE) [] [])) λc=>
 R c:=bG Tryz.func27 (uz 8)
instance aeB(x y):bF (c52 x y) λR=>
 R (x==y):=bG Tryz.func52 (uz 8)
instance aej(a b one):bF (ZD a b one) λR=>
 aq (((a.len:Nat):Int)!=((b.len:Nat):Int)) (
 R false)<|
 loop ci 0 λc (d:Int)=>
 aq (decide (d<((a.len:Nat):Int))) (
 bR<|
 idx a d 1 λe=>
 idx b d 1 λf=>
 dn e λg=>
 dn f λh=>
 qa Tryz.prog one [vi g,vi h] [qb] λ(i:Bool)=>
 aq (!i) (
 R false)<|
 c (i64.wrap (d+1)))<|
 R true:=bG Tryz.func28 (uz 0x1c032029955126e2045d61e94d20e91c69411651c29400650809520c1081201047046080041241001)
instance ad6(a b one):bF (YL a b one) λR=>
 aq (((a.len:Nat):Int)!=((b.len:Nat):Int)) (
 R false)<|
 loop ci 0 λc (d:Int)=>
 aq (decide (d<((a.len:Nat):Int))) (
 bR<|
 idx a d 4 λe=>
 idx b d 4 λf=>
 ld dO e λg=>
 ld dO f λh=>
 qa Tryz.prog one [.agg (Ks.mk dO g),.agg (Ks.mk dO h)] [qb] λ(i:Bool)=>
 aq (!i) (
 R false)<|
 c (i64.wrap (d+1)))<|
 R true:=bG Tryz.func12 (uz 0x1c032029955126e2045d61e94d20e91c69411651c29400650809520c1081201047046080041241001)
instance aey(a b one):bF (ZO a b one) λR=>
 aq (((a.len:Nat):Int)!=((b.len:Nat):Int)) (
 R false)<|
 loop ci 0 λc (d:Int)=>
 aq (decide (d<((a.len:Nat):Int))) (
 bR<|
 idx a d 5 λe=>
 idx b d 5 λf=>
 ld aX e λg=>
 ld aX f λh=>
 qa Tryz.prog one [.agg (Ks.mk aX g),.agg (Ks.mk aX h)] [qb] λ(i:Bool)=>
 aq (!i) (
 R false)<|
 c (i64.wrap (d+1)))<|
 R true:=bG Tryz.func49 (uz 0x1c032029955126e2045d61e94d20e91c69411651c29400650809520c1081201047046080041241001)
instance aeA(a b one):bF (ZP a b one) λR=>
 aq (((a.len:Nat):Int)!=((b.len:Nat):Int)) (
 R false)<|
 loop ci 0 λc (d:Int)=>
 aq (decide (d<((a.len:Nat):Int))) (
 bR<|
 idx a d 1 λe=>
 idx b d 1 λf=>
 dn e λg=>
 dn f λh=>
 qa Tryz.prog one [vi g,vi h] [qb] λ(i:Bool)=>
 aq (!i) (
 R false)<|
 c (i64.wrap (d+1)))<|
 R true:=bG Tryz.func51 (uz 0x1c032029955126e2045d61e94d20e91c69411651c29400650809520c1081201047046080041241001)
instance iq3(c l raw):bF (c3 c l raw) λR=>
 new (Ks.mk aZ c) λa=>
 join [] (λb=>
 aq (!raw) (
 ld aZ ⟨a,0⟩ λd=>
 bQ (c7 d) λ(e:eF)=>
 st ⟨a,0⟩ (Ks.mk aZ e)<|
 b ())<|
 b ()) λ(f:Unit)=>
 bQ (c8 l 90) λ(g:Sl)=>
 ld aZ ⟨a,0⟩ λh=>
 bQ (c9 h g) λ(i:Sl×Sl)=>
 ld aZ ⟨a,0⟩ λj=>
 bQ (PF j g) λ(k:Sl×Sl)=>
 ld aZ ⟨a,0⟩ λm=>
 bQ (c9 m g) λ(n:Sl×Sl)=>
 cg P7 λo=>
 aq o (
 cg (YL i.1 k.1 (.mk (.func kl) [] [])) λp=>
 aq p (
 cg (YM i.2 k.2) λq=>
 aq q (
 cg (YL n.1 i.1 (.mk (.func kl) [] [])) λr=>
 aq r (
 cg (YM n.2 i.2) λs=>
 R s)<|
 R false)<|
 R false)<|
 R false)<|
 R false:=bG Tryz.func3 (uz 0x848004001)
instance ad5:bF P7 λR=>
 new [.int .u8 1,.int .u8 2] λa=>
 bQ (Zv ⟨some ⟨a,0⟩,2,2⟩) λ(b:Sl)=>
 aq (((b.len:Nat):Int)==1) (
 idx b 0 15 λc=>
 dn c λd=>
 aq (d==1) (
 idx b 0 15 λe=>
 gY e 1 λf=>
 aq (f==2) (
 new [aE 5] λg=>
 bQ (Zw ⟨none,0,0⟩ ⟨some ⟨g,0⟩,1,1⟩) λ(h:ByteArray)=>
 aq (h.toList==(⟨#[53,10]⟩:ByteArray).toList) (
 bQ YN λ(i:eF)=>
 bQ XG λ(j:eF)=>
 R ((i.1==j.1)&&((i.2.1==j.2.1)&&((i.2.2.1==j.2.2.1)&&((i.2.2.2.1==j.2.2.2.1)&&((i.2.2.2.2.1==j.2.2.2.2.1)&&((i.2.2.2.2.2.1==j.2.2.2.2.2.1)&&((i.2.2.2.2.2.2.1==j.2.2.2.2.2.2.1)&&((i.2.2.2.2.2.2.2.1==j.2.2.2.2.2.2.2.1)&&(i.2.2.2.2.2.2.2.2==j.2.2.2.2.2.2.2.2))))))))))<|
 R false)<|
 R false)<|
 R false)<|
 R false:=bG Tryz.func11 (uz 0xb)
instance iq7(d):bF (c7 d) λR=>
 new (Ks.mk aZ d) λa=>
 new [zi,zi,zi,zi,zu,zu,bc false,zi,zi] λb=>
 bQ XG λ(c:eF)=>
 new [zi,zi,zi,zi,zu,zu,bc false,zi,zi] λe=>
 st ⟨e,0⟩ (Ks.mk aZ c)<|
 join [] (λf=>
 join cb (λg=>
 dn ⟨a,0⟩ λh=>
 aq (decide (h≥100)) (
 dn ⟨a,0⟩ λi=>
 g (decide (i≤65536)))<|
 g false) λ(j:Bool)=>
 aq j (
 dn ⟨a,0⟩ λk=>
 st ⟨e,0⟩ [aE k]<|
 f ())<|
 f ()) λ(l:Unit)=>
 join [] (λm=>
 join cb (λn=>
 dn ⟨a,1⟩ λo=>
 aq (decide (o≥100)) (
 dn ⟨a,1⟩ λp=>
 n (decide (p≤65536)))<|
 n false) λ(q:Bool)=>
 aq q (
 dn ⟨a,1⟩ λr=>
 st ⟨e,1⟩ [aE r]<|
 m ())<|
 m ()) λ(s:Unit)=>
 join [] (λt=>
 join cb (λu=>
 dn ⟨a,2⟩ λv=>
 aq (decide (v≥1)) (
 dn ⟨a,2⟩ λw=>
 u (decide (w≤512)))<|
 u false) λ(x:Bool)=>
 aq x (
 dn ⟨a,2⟩ λy=>
 st ⟨e,2⟩ [aE y]<|
 t ())<|
 t ()) λ(z:Unit)=>
 join [] (λA=>
 join cb (λB=>
 dn ⟨a,3⟩ λC=>
 aq (decide (C≥1)) (
 dn ⟨a,3⟩ λD=>
 B (decide (D≤512)))<|
 B false) λ(E:Bool)=>
 aq E (
 dn ⟨a,3⟩ λF=>
 st ⟨e,3⟩ [aE F]<|
 A ())<|
 A ()) λ(G:Unit)=>
 join [] (λH=>
 bI ⟨a,4⟩ λI=>
 aq (decide (I≤4611686018427387904)) (
 bI ⟨a,4⟩ λJ=>
 st ⟨e,4⟩ [aB J]<|
 H ())<|
 H ()) λ(K:Unit)=>
 join [] (λL=>
 join cb (λM=>
 dn ⟨a,7⟩ λN=>
 aq (decide (N≥1)) (
 dn ⟨a,7⟩ λO=>
 M (decide (O≤1073741824)))<|
 M false) λ(Q:Bool)=>
 aq Q (
 dn ⟨a,7⟩ λS=>
 st ⟨e,7⟩ [aE S]<|
 L ())<|
 L ()) λ(T:Unit)=>
 join [] (λU=>
 join cb (λV=>
 dn ⟨a,8⟩ λX=>
 aq (decide (X≥100)) (
 dn ⟨a,8⟩ λY=>
 V (decide (Y≤9000)))<|
 V false) λ(Z:Bool)=>
 aq Z (
 dn ⟨a,8⟩ λa0=>
 st ⟨e,8⟩ [aE a0]<|
 U ())<|
 U ()) λ(a1:Unit)=>
 bR<|
 bI ⟨a,5⟩ λa2=>
 rC ⟨a,6⟩ λa3=>
 st ⟨e,5⟩ [aB a2]<|
 ct ⟨a,6⟩ (Ks.mk cb a3)<|
 st ⟨e,6⟩ [bc a3]<|
 ld aZ ⟨e,0⟩ λa4=>
 st ⟨b,0⟩ (Ks.mk aZ a4)<|
 ld aZ ⟨b,0⟩ λa5=>
 R a5:=bG Tryz.func7 (uz 0x1e05941ea0c6955485a831250c104294102537f0c11c008afc1100107002f811001080041c00ad0440041c00a20440041c00970440041c008c044004001001)
instance aec(d):bF (Zx d) λR=>
 new (Ks.mk a_ d) λa=>
 new [zi,zi,zi,zu,zu,aY ⟨none,0,0⟩,zi,zi,zi,zi,zu,zu,bc false,zi,zi] λb=>
 join [] (λc=>
 eP ⟨a,5⟩ λe=>
 aq (decide (((e.len:Nat):Int)>6)) (
 eP ⟨a,5⟩ λf=>
 DV f none (some 6) none 2 λg=>
 st ⟨a,5⟩ [aY g]<|
 c ())<|
 c ()) λ(h:Unit)=>
 join [] (λi=>
 dn ⟨a,2⟩ λj=>
 aq (decide (j>200000)) (
 st ⟨a,2⟩ [aE 200000]<|
 i ())<|
 i ()) λ(k:Unit)=>
 ld a_ ⟨a,0⟩ λl=>
 st ⟨b,0⟩ (Ks.mk a_ l)<|
 ld a_ ⟨b,0⟩ λm=>
 R m:=bG Tryz.func21 (uz 0x7200108004001)
instance iq8(l most):bF (c8 l most) λR=>
 loop [.sl,.int .i64] (⟨none,0,0⟩,0) λa (b:Sl×Int)=>
 aq ((decide (b.2<((l.len:Nat):Int)))&&(decide (b.2<most))) (
 idx l b.2 15 λc=>
 ld a_ c λd=>
 bQ (Zx d) λ(e:fM)=>
 new [aE e.1,aE e.2.1,aE e.2.2.1,aB e.2.2.2.1,aB e.2.2.2.2.1,aY e.2.2.2.2.2.1,aE e.2.2.2.2.2.2.1,aE e.2.2.2.2.2.2.2.1,aE e.2.2.2.2.2.2.2.2.1,aE e.2.2.2.2.2.2.2.2.2.1,aB e.2.2.2.2.2.2.2.2.2.2.1,aB e.2.2.2.2.2.2.2.2.2.2.2.1,bc e.2.2.2.2.2.2.2.2.2.2.2.2.1,aE e.2.2.2.2.2.2.2.2.2.2.2.2.2.1,aE e.2.2.2.2.2.2.2.2.2.2.2.2.2.2] λf=>
 mj 15 b.1 ⟨some ⟨f,0⟩,1,1⟩ λg=>
 a (g,(i64.wrap (b.2+1))))<|
 R b.1:=bG Tryz.func8 (uz 0x7000081201046105086080041001001)
instance aaZ(a b):bF (qH a b) λR=>
 aq (decide (a>(u64.wrap (18446744073709551615-b)))) (
 R 18446744073709551615)<|
 R (u64.wrap (a+b)):=bG Tryz.func130 (uz 0xa)
instance acZ(bw bT gain):bF (JX bw bT gain) λR=>
 aU (Bo bw bT 1000000000) λa=>
 aU (Bo a gain 256) λb=>
 R b:=bG Tryz.func259 (uz 8)
instance aa0(size ba):bF (L4 size ba) λR=>
 aq ((decide (size<1))||(ba==18446744073709551615)) (
 R 0)<|
 aU (Bo (u64.wrap size) 1000000000 ba) λa=>
 R (if 1000000000<a then 1000000000 else a):=bG Tryz.func131 (uz 0xa)
instance acT(hi lo c):bF (U0 hi lo c) λR=>
 aq (c==0) (
 R (0,1))<|
 aq (decide (hi≥c)) (
 R (0,3))<|
 loop SD (lo,0,hi,0) λa (b:xJ)=>
 aq (decide (b.2.2.2<64)) (
 eA (0≤(63:Int))<|
 eA (0≤(1:Int))<|
 eA (0≤(63:Int))<|
 eA (0≤(1:Int))<|
 eA (0≤(1:Int))<|
 aq (((b.2.2.1.fdiv (2^min (63:Int).toNat u64.bits))==1)||(decide ((u64.wrap (BitVec.ofInt u64.bits (u64.wrap (b.2.2.1*2^min (1:Int).toNat u64.bits))|||BitVec.ofInt u64.bits (b.1.fdiv (2^min (63:Int).toNat u64.bits))).toNat)≥c))) (
 a ((u64.wrap (b.1*2^min (1:Int).toNat u64.bits)),(u64.wrap (BitVec.ofInt u64.bits (u64.wrap (b.2.1*2^min (1:Int).toNat u64.bits))|||BitVec.ofInt u64.bits 1).toNat),(u64.wrap ((u64.wrap (BitVec.ofInt u64.bits (u64.wrap (b.2.2.1*2^min (1:Int).toNat u64.bits))|||BitVec.ofInt u64.bits (b.1.fdiv (2^min (63:Int).toNat u64.bits))).toNat)-c)),(i64.wrap (b.2.2.2+1))))<|
 a ((u64.wrap (b.1*2^min (1:Int).toNat u64.bits)),(u64.wrap (b.2.1*2^min (1:Int).toNat u64.bits)),(u64.wrap (BitVec.ofInt u64.bits (u64.wrap (b.2.2.1*2^min (1:Int).toNat u64.bits))|||BitVec.ofInt u64.bits (b.1.fdiv (2^min (63:Int).toNat u64.bits))).toNat),(i64.wrap (b.2.2.2+1))))<|
 R (b.2.1,0):=bG Tryz.func253 (uz 0x702208120104a009008001106080041001241241001)
instance aa1(a b):bF (T5 a b) λR=>
 aq (a==0) (
 aq (b==0) (
 R (if(18446744073709551615:Int)<(18446744073709551615:Int)then(18446744073709551615:Int)else(18446744073709551615:Int)))<|
 R (if b<18446744073709551615 then b else 18446744073709551615))<|
 aq (b==0) (
 R (if 18446744073709551615<a then 18446744073709551615 else a))<|
 R (if b<a then b else a):=bG Tryz.func132 (uz 0x23)
instance abZ(ba tso most):bF (UB ba tso most) λR=>
 aU (JY 2 (u64.wrap (if tso>0 then tso else 0))) λa=>
 R (if(if(u64.wrap (if most>0 then most else 0))<(u64.wrap (ba.tdiv 1024))then(u64.wrap (if most>0 then most else 0))else(u64.wrap (ba.tdiv 1024)))>a then(if(u64.wrap (if most>0 then most else 0))<(u64.wrap (ba.tdiv 1024))then(u64.wrap (if most>0 then most else 0))else(u64.wrap (ba.tdiv 1024)))else a):=bG Tryz.func197 (uz 8)
instance ac6(a b):bF (JY a b) λR=>
 aq (decide (b>0)) (
 eA (b≠0)<|
 aq (decide (a>(u64.wrap ((18446744073709551615:Int).tdiv b)))) (
 R 18446744073709551615)<|
 R (u64.wrap (a*b)))<|
 R (u64.wrap (a*b)):=bG Tryz.func266 (uz 0xa)
instance abO(a b c):bF (Bo a b c) λR=>
 bQ (UZ a b) λ(d:Int×Int)=>
 aq ((d.1==0)&&(d.2==0)) (
 R 0)<|
 bQ (U0 d.1 d.2 c) λ(e:Int×Int)=>
 aq (e.2 !=0) (
 R 18446744073709551615)<|
 R e.1:=bG Tryz.func186 (uz 0x19)
instance abI(bw gain):bF (Qj bw gain) λR=>
 aU (Bo bw gain 256) λa=>
 R a:=bG Tryz.func180 (uz 8)
instance abW(ba bt):bF (Uy ba bt) λR=>
 eA ((u64.wrap (if(if(9000:Int)<bt then(9000:Int)else bt)>(100:Int)then(if(9000:Int)<bt then(9000:Int)else bt)else(100:Int)))≠0)<|
 eA ((if(if(9000:Int)<bt then(9000:Int)else bt)>(100:Int)then(if(9000:Int)<bt then(9000:Int)else bt)else(100:Int))≠0)<|
 R (i64.wrap ((i64.wrap (if(if(u64.wrap (i64.wrap ((65536:Int).tdiv (if(if 9000<bt then 9000 else bt)>100 then(if 9000<bt then 9000 else bt)else 100))))<(u64.wrap ((u64.wrap (ba.tdiv 1024)).tdiv (u64.wrap (if(if 9000<bt then 9000 else bt)>100 then(if 9000<bt then 9000 else bt)else 100))))then(u64.wrap (i64.wrap ((65536:Int).tdiv (if(if 9000<bt then 9000 else bt)>100 then(if 9000<bt then 9000 else bt)else 100))))else(u64.wrap ((u64.wrap (ba.tdiv 1024)).tdiv (u64.wrap (if(if 9000<bt then 9000 else bt)>100 then(if 9000<bt then 9000 else bt)else 100)))))>2 then(if(u64.wrap (i64.wrap ((65536:Int).tdiv (if(if 9000<bt then 9000 else bt)>100 then(if 9000<bt then 9000 else bt)else 100))))<(u64.wrap ((u64.wrap (ba.tdiv 1024)).tdiv (u64.wrap (if(if 9000<bt then 9000 else bt)>100 then(if 9000<bt then 9000 else bt)else 100))))then(u64.wrap (i64.wrap ((65536:Int).tdiv (if(if 9000<bt then 9000 else bt)>100 then(if 9000<bt then 9000 else bt)else 100))))else(u64.wrap ((u64.wrap (ba.tdiv 1024)).tdiv (u64.wrap (if(if 9000<bt then 9000 else bt)>100 then(if 9000<bt then 9000 else bt)else 100)))))else 2))*(if(if 9000<bt then 9000 else bt)>100 then(if 9000<bt then 9000 else bt)else 100))):=bG Tryz.func194 (uz 0x10)
instance abL(a b):bF (wR a b) λR=>
 aq (decide (a<b)) (
 R 0)<|
 R (u64.wrap (a-b)):=bG Tryz.func183 (uz 0xa)
instance acS(a b):bF (UZ a b) λR=>
 eA (0≤(32:Int))<|
 eA (0≤(32:Int))<|
 eA (0≤(32:Int))<|
 eA (0≤(32:Int))<|
 eA (0≤(32:Int))<|
 eA (0≤(32:Int))<|
 eA (0≤(32:Int))<|
 R ((u64.wrap ((u64.wrap ((u64.wrap ((u64.wrap ((a.fdiv (2^min (32:Int).toNat u64.bits))*(b.fdiv (2^min (32:Int).toNat u64.bits))))+((u64.wrap ((a.fdiv (2^min (32:Int).toNat u64.bits))*(u64.wrap (BitVec.ofInt u64.bits b&&&BitVec.ofInt u64.bits 4294967295).toNat))).fdiv (2^min (32:Int).toNat u64.bits))))+((u64.wrap ((u64.wrap (BitVec.ofInt u64.bits a&&&BitVec.ofInt u64.bits 4294967295).toNat)*(b.fdiv (2^min (32:Int).toNat u64.bits)))).fdiv (2^min (32:Int).toNat u64.bits))))+((u64.wrap ((u64.wrap (((u64.wrap ((u64.wrap (BitVec.ofInt u64.bits a&&&BitVec.ofInt u64.bits 4294967295).toNat)*(u64.wrap (BitVec.ofInt u64.bits b&&&BitVec.ofInt u64.bits 4294967295).toNat))).fdiv (2^min (32:Int).toNat u64.bits))+(u64.wrap (BitVec.ofInt u64.bits (u64.wrap ((a.fdiv (2^min (32:Int).toNat u64.bits))*(u64.wrap (BitVec.ofInt u64.bits b&&&BitVec.ofInt u64.bits 4294967295).toNat)))&&&BitVec.ofInt u64.bits 4294967295).toNat)))+(u64.wrap (BitVec.ofInt u64.bits (u64.wrap ((u64.wrap (BitVec.ofInt u64.bits a&&&BitVec.ofInt u64.bits 4294967295).toNat)*(b.fdiv (2^min (32:Int).toNat u64.bits))))&&&BitVec.ofInt u64.bits 4294967295).toNat))).fdiv (2^min (32:Int).toNat u64.bits)))),(u64.wrap (BitVec.ofInt u64.bits (u64.wrap ((u64.wrap ((u64.wrap (((u64.wrap ((u64.wrap (BitVec.ofInt u64.bits a&&&BitVec.ofInt u64.bits 4294967295).toNat)*(u64.wrap (BitVec.ofInt u64.bits b&&&BitVec.ofInt u64.bits 4294967295).toNat))).fdiv (2^min (32:Int).toNat u64.bits))+(u64.wrap (BitVec.ofInt u64.bits (u64.wrap ((a.fdiv (2^min (32:Int).toNat u64.bits))*(u64.wrap (BitVec.ofInt u64.bits b&&&BitVec.ofInt u64.bits 4294967295).toNat)))&&&BitVec.ofInt u64.bits 4294967295).toNat)))+(u64.wrap (BitVec.ofInt u64.bits (u64.wrap ((u64.wrap (BitVec.ofInt u64.bits a&&&BitVec.ofInt u64.bits 4294967295).toNat)*(b.fdiv (2^min (32:Int).toNat u64.bits))))&&&BitVec.ofInt u64.bits 4294967295).toNat)))*2^min (32:Int).toNat u64.bits))|||BitVec.ofInt u64.bits (u64.wrap (BitVec.ofInt u64.bits (u64.wrap ((u64.wrap (BitVec.ofInt u64.bits a&&&BitVec.ofInt u64.bits 4294967295).toNat)*(u64.wrap (BitVec.ofInt u64.bits b&&&BitVec.ofInt u64.bits 4294967295).toNat)))&&&BitVec.ofInt u64.bits 4294967295).toNat)).toNat)):=bG Tryz.func252 (uz 0x14)
instance ac4(bw bT gain tso bt):bF (U9 bw bT gain tso bt) λR=>
 aq (bT==0) (
 aU (JY 10 bt) λa=>
 R a)<|
 aU (JX bw bT gain) λb=>
 aU (JY 3 tso) λc=>
 aU (qH b c) λd=>
 aU (JY 4 bt) λe=>
 R (if e>d then e else d):=bG Tryz.func264 (uz 0xa)
instance aeZ(b sock fate):bF (VG b sock fate) λR=>
 aq ((decide (sock<0))||(decide (sock≥8))) (
 R 8)<|
 aq ((decide (fate<0))||(decide (fate>5))) (
 R 1)<|
 aC b λa=>
 eA (0≤sock∧sock<8)<|
 join [] (λc=>
 aq (fate !=0) (
 aC (some ⟨a.b,a.o+sock.toNat*8⟩) λd=>
 gY d 7 λe=>
 aq (e==0) (
 R 7)<|
 c ())<|
 c ()) λ(f:Unit)=>
 aC (some ⟨a.b,a.o+sock.toNat*8⟩) λg=>
 st g [aE sock]<|
 bR<|
 aC (some ⟨a.b,a.o+sock.toNat*8⟩) λh=>
 aC (some ⟨a.b,a.o+sock.toNat*8⟩) λi=>
 eA (0≤fate∧fate<6)<|
 dn ⟨h.b,h.o+1+fate.toNat*1⟩ λj=>
 eA (0≤fate∧fate<6)<|
 st ⟨i.b,i.o+1+fate.toNat*1⟩ [aE (i64.wrap (j+1))]<|
 aq (fate==0) (
 aC (some ⟨a.b,a.o+sock.toNat*8⟩) λk=>
 gY k 7 λl=>
 aC (some ⟨a.b,a.o+sock.toNat*8⟩) λm=>
 so m 7 [aE (i64.wrap (l+1))]<|
 R 0)<|
 aC (some ⟨a.b,a.o+sock.toNat*8⟩) λn=>
 gY n 7 λp=>
 aC (some ⟨a.b,a.o+sock.toNat*8⟩) λq=>
 so q 7 [aE (i64.wrap (p-1))]<|
 R 0:=bG Tryz.func79 (uz 0x4a06972aa6522691855121292034479510a5081947025943040049004001241241001)
instance aaM(b upto):bF (T0 b upto) λR=>
 aC b λa=>
 dD a 2 λc=>
 aq (decide (upto>c)) (
 R 11)<|
 aC b λd=>
 dD d 1 λe=>
 aC b λf=>
 so f 1 [aB (if upto>e then upto else e)]<|
 R 0:=bG Tryz.func117 (uz 0x16)
instance ab2(b most):bF (UE b most) λR=>
 new [zu,zu] λa=>
 join [] (λc=>
 bR<|
 aq (decide (most<1)) (
 st ⟨a,0⟩ [zu,zu]<|
 ld cr ⟨a,0⟩ λ(d:Int×Int)=>
 R (d,false))<|
 aC b λe=>
 aC b λf=>
 dD e 2 λg=>
 dD f 3 λh=>
 aq (g==h) (
 st ⟨a,0⟩ [zu,zu]<|
 ld cr ⟨a,0⟩ λ(i:Int×Int)=>
 R (i,false))<|
 c ()) λ(j:Unit)=>
 bR<|
 aC b λk=>
 aC b λl=>
 aC b λm=>
 aC b λn=>
 dD k 2 λo=>
 dD l 2 λp=>
 dD m 3 λq=>
 dD n 2 λr=>
 new [zu,zu] λs=>
 lJ n 2 r<|
 lJ m 3 q<|
 lJ l 2 p<|
 lJ k 2 o<|
 st ⟨s,0⟩ [aB o,aB (u64.wrap (p+(if(u64.wrap (q-r))<(u64.wrap most)then(u64.wrap (q-r))else(u64.wrap most))))]<|
 bI ⟨s,1⟩ λt=>
 aC b λu=>
 so u 2 [aB t]<|
 ld cr ⟨s,0⟩ λ(v:Int×Int)=>
 st ⟨a,0⟩ (Ks.mk cr v)<|
 ld cr ⟨a,0⟩ λ(w:Int×Int)=>
 R (w,true):=bG Tryz.func200 (uz 0x2209865ea5a29545699185298da4e989e4a944d1c340c1823cb2450403a500a94122500494002550304c81c24ca5b3492ed6892a93091a93c92692c91693892292891292401e92400e90810409460c1004001)
instance aeT(b n):bF (YS b n) λR=>
 aq (decide (n<1)) (
 R 1)<|
 bR<|
 aC b λa=>
 aC b λc=>
 aC b λd=>
 dn a λe=>
 dD c 3 λf=>
 dD d 1 λg=>
 aq (decide ((u64.wrap n)>(u64.wrap ((u64.wrap (if(if 1073741824<e then 1073741824 else e)>0 then(if 1073741824<e then 1073741824 else e)else 0))-(u64.wrap (f-g)))))) (
 R 5)<|
 aC b λh=>
 dD h 3 λi=>
 aC b λj=>
 so j 3 [aB (u64.wrap (i+(u64.wrap n)))]<|
 R 0:=bG Tryz.func73 (uz 0x1a82146680e4291857db3e910e28334908c20100b9401e50009470c1241001)
instance aaY(l):bF (T4 l) λR=>
 aC l λa=>
 eP a λb=>
 aq (decide (((b.len:Nat):Int)>0)) (
 aC l λc=>
 eP c λd=>
 idx d 0 1 λe=>
 dn e λf=>
 R (f,true,true))<|
 aC l λg=>
 jn g 1 λh=>
 aq (decide (((h.len:Nat):Int)>0)) (
 aC l λi=>
 jn i 1 λj=>
 idx j 0 1 λk=>
 dn k λm=>
 R (m,false,true))<|
 R (0,false,false):=bG Tryz.func129 (uz 0x24)
instance acN(l sock):bF (Qv l sock) λR=>
 aC l λa=>
 eP a λb=>
 cg (QE b sock) λc=>
 aq c (
 R 1)<|
 aC l λd=>
 jn d 1 λe=>
 cg (QE e sock) λf=>
 aq f (
 R 2)<|
 R 0:=bG Tryz.func247 (uz 0x1cd081001)
instance ab6(l sock fresh):bF (L9 l sock fresh) λR=>
 aq ((decide (sock<0))||(decide (sock≥8))) (
 R 8)<|
 bq (Qv l sock) λa=>
 aq (a !=0) (
 R 6)<|
 aq fresh (
 aC l λb=>
 eP b λc=>
 mj 1 ⟨none,0,0⟩ c λd=>
 new [aE sock] λe=>
 mj 1 d ⟨some ⟨e,0⟩,1,1⟩ λf=>
 aC l λg=>
 st g [aY f]<|
 R 0)<|
 aC l λh=>
 jn h 1 λi=>
 mj 1 ⟨none,0,0⟩ i λj=>
 new [aE sock] λk=>
 mj 1 j ⟨some ⟨k,0⟩,1,1⟩ λm=>
 aC l λn=>
 so n 1 [aY m]<|
 R 0:=bG Tryz.func204 (uz 0x25)
instance abJ(l sock):bF (Qk l sock) λR=>
 bq (Qv l sock) λa=>
 bR<|
 aC l λb=>
 aC l λc=>
 eP b λd=>
 jn c 1 λe=>
 bQ (Qw d sock) λ(f:Sl)=>
 td c 1 e<|
 bQ (Qw e sock) λ(g:Sl)=>
 aC l λh=>
 st h [aY f]<|
 aC l λi=>
 so i 1 [aY g]<|
 R (a !=0):=bG Tryz.func181 (uz 0x7822793aa14a52d1960610a8f28e95d70da973c7a8b14a1090c13250089411a50029400650009490c1001001)
instance acO(l x):bF (Qw l x) λR=>
 loop [.sl,.int .i64] (⟨none,0,0⟩,0) λa (b:Sl×Int)=>
 aq (decide (b.2<((l.len:Nat):Int))) (
 idx l b.2 1 λc=>
 dn c λd=>
 aq (d !=x) (
 idx l b.2 1 λe=>
 dn e λf=>
 new [aE f] λg=>
 mj 1 b.1 ⟨some ⟨g,0⟩,1,1⟩ λh=>
 a (h,(i64.wrap (b.2+1))))<|
 a (b.1,(i64.wrap (b.2+1))))<|
 R b.1:=bG Tryz.func248 (uz 0x7008081201046105086080041001001)
instance ac3(c):bF (U7 c) λR=>
 aC c λa=>
 dn a λb=>
 aq (b==0) (
 R 320)<|
 aq (b==1) (
 R 192)<|
 R 256:=bG Tryz.func263 (uz 0x1cd080041001)
instance ac1(c aj phase):bF (Mj c aj phase) λR=>
 aC c λa=>
 st a [aE (phase.tmod 8)]<|
 aC c λb=>
 so b 1 [aB aj]<|
 aC c λd=>
 dn d λe=>
 aq (decide (e<0)) (
 aC c λf=>
 dn f λg=>
 aC c λh=>
 st h [aE (i64.wrap (g+8))]<|
 R ())<|
 R ():=bG Tryz.func261 (uz 0xb)
instance acY(c aj bT bo flight up one):bF (U3 c aj bT bo flight up one) λR=>
 aC c λa=>
 dD a 1 λb=>
 aU (wR aj b) λd=>
 join cb (λe=>
 aC c λf=>
 dn f λg=>
 aq (g==0) (
 e ((decide (d>bT))&&((decide (bo>0))||(decide (flight≥up)))))<|
 aq (g==1) (
 e ((decide (d>bT))||(decide (flight≤one))))<|
 e (decide (d>bT))) λ(h:Bool)=>
 aq h (
 aC c λi=>
 dn i λj=>
 cj (Mj c aj (i64.wrap (j+1))) λk=>
 R h)<|
 R h:=bG Tryz.func258 (uz 0x1240200108f044001001)
instance abV(m):bF (Ux m) λR=>
 new [zi,zi,zu,zu,zu,zu,zu,zu,bc false,bc false] λa=>
 bR<|
 aC m λb=>
 aC m λc=>
 aC m λd=>
 aC m λe=>
 aC m λf=>
 aC m λg=>
 aC m λh=>
 aC m λi=>
 aC m λj=>
 gY b 23 λk=>
 dD c 24 λl=>
 dD d 25 λn=>
 dD f 26 λo=>
 dD e 9 λp=>
 dD g 2 λq=>
 gY h 7 λr=>
 oI i 6 λs=>
 oI j 15 λt=>
 aU (CG m) λu=>
 Y3 j 15 t<|
 Y3 i 6 s<|
 GS h 7 r<|
 lJ g 2 q<|
 lJ e 9 p<|
 lJ f 26 o<|
 lJ d 25 n<|
 lJ c 24 l<|
 GS b 23 k<|
 st ⟨a,0⟩ [aE k,aE r,aB l,aB n,aB u,aB p,aB o,aB q,bc s,bc t]<|
 ld eH ⟨a,0⟩ λv=>
 R v:=bG Tryz.func193 (uz 0x83c0acabbdb1b278de38a1ab2bf3cd9baaa5d659708256d2e699749257da5912c70f8a25ce395e65540a182de79728a575850f2450409a50219407250179404e500e9403250089401250009420c1001)
instance aaO(d o a):bF (P9 d o a) λR=>
 new (Ks.mk aW o) λc=>
 new [zi,zi,zu,zu,zu,zu,zu,zu,bc false,bc false] λe=>
 bR<|
 ld aW ⟨c,0⟩ λf=>
 aC d λg=>
 cg (Uq (some ⟨g.b,g.o+2⟩) f) λh=>
 bR<|
 ld aW ⟨c,0⟩ λi=>
 aC d λj=>
 cj (Ur (some ⟨j.b,j.o+15⟩) h i) λk=>
 join [] (λl=>
 join cb (λm=>
 bI ⟨c,5⟩ λn=>
 aq (decide (n>0)) (
 bI ⟨c,3⟩ λp=>
 m (decide (p>0)))<|
 m false) λ(q:Bool)=>
 aq q (
 bR<|
 bI ⟨c,1⟩ λr=>
 bI ⟨c,2⟩ λs=>
 bI ⟨c,3⟩ λt=>
 aU (wR r s) λu=>
 ct ⟨c,3⟩ (Ks.mk cu t)<|
 aU (Bo u 1000000000 t) λv=>
 join cb (λw=>
 rC ⟨c,8⟩ λx=>
 aq (!x) (
 w true)<|
 aC d λy=>
 ga y 1 λz=>
 aC z λA=>
 eA (0≤(0:Int)∧(0:Int)<3)<|
 bI ⟨A.b,A.o+4+(0:Int).toNat*1⟩ λB=>
 w (decide (v≥B))) λ(C:Bool)=>
 aq C (
 bR<|
 aC d λD=>
 aC d λE=>
 ga D 1 λF=>
 dD E 2 λG=>
 aU (Us F G v) λH=>
 l ())<|
 l ())<|
 l ()) λ(I:Unit)=>
 ld aW ⟨c,0⟩ λJ=>
 cj (Ut d J h) λK=>
 bQ (Uu d) λ(L:Int×Int)=>
 aC d λM=>
 so M 26 [aB L.1]<|
 join [] (λN=>
 aU (CG d) λO=>
 aq (decide (O>0)) (
 aU (CG d) λQ=>
 aU (Qj Q L.1) λS=>
 join cb (λT=>
 aC d λU=>
 oI U 6 λV=>
 aq V (
 T true)<|
 aC d λX=>
 dD X 24 λY=>
 T (decide ((if S>1 then S else 1)>Y))) λ(Z:Bool)=>
 aq Z (
 aC d λa0=>
 so a0 24 [aB (if S>1 then S else 1)]<|
 N ())<|
 N ())<|
 N ()) λ(a1:Unit)=>
 ld aW ⟨c,0⟩ λa2=>
 cj (Uv d a2 h) λa3=>
 ld aW ⟨c,0⟩ λa4=>
 cj (Uw d a4 a L.2) λa5=>
 bQ (Ux d) λ(a6:gd)=>
 st ⟨e,0⟩ (Ks.mk eH a6)<|
 ld eH ⟨e,0⟩ λa7=>
 R a7:=bG Tryz.func119 (uz 0x2c01c00a3fc110004100100400100100100081a6542ae2070c6085048265004940025d430400b50448182265d51ea51212a1830441651029440257830410027811001209648c5ba20a58419441c394000306054598f384a820440e500094b0c1001)
instance abS(m):bF (CG m) λR=>
 aC m λa=>
 oI a 15 λc=>
 aq c (
 aC m λd=>
 dD d 17 λe=>
 R e)<|
 aC m λf=>
 ga f 1 λg=>
 aC g λh=>
 eA (0≤(0:Int)∧(0:Int)<3)<|
 bI ⟨h.b,h.o+4+(0:Int).toNat*1⟩ λi=>
 R i:=bG Tryz.func190 (uz 0xa)
instance abR(m):bF (Uu m) λR=>
 aC m λa=>
 gY a 23 λc=>
 aq (c==0) (
 R (739,739))<|
 aq (c==1) (
 R (88,739))<|
 aq (c==2) (
 aC m λd=>
 oI d 15 λe=>
 aq e (
 R (256,512))<|
 aC m λf=>
 aU (U7 (some ⟨f.b,f.o+7⟩)) λg=>
 R (g,512))<|
 R (256,256):=bG Tryz.func189 (uz 0x1e6080041001)
end Go.X
